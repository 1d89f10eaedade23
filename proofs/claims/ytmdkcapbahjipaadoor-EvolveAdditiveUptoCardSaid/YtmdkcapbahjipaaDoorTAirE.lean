/- The functions of the layer of changes as the walk has them. -/
import Derived.Test.YtmdkcapbahjipaaDoorTAirA
namespace Go.Proofs.YtmdkcapbahjipaaDoor.Ag
set_option maxRecDepth 100000
abbrev i_cartouchelaw18_EvolveDiffs : FuncId := 6
theorem F_cartouchelaw18_EvolveDiffs : Tryd.prog.funcs[i_cartouchelaw18_EvolveDiffs]? = some Tryd.f6 := Tryd.func6
abbrev i_evolve_Diff : FuncId := 28
theorem F_evolve_Diff : Tryd.prog.funcs[i_evolve_Diff]? = some Tryd.f28 := Tryd.func28
abbrev i_cartouchelaw18_awake : FuncId := 29
theorem F_cartouchelaw18_awake : Tryd.prog.funcs[i_cartouchelaw18_awake]? = some Tryd.f29 := Tryd.func29
abbrev i_cartoucheref18_Diff : FuncId := 30
theorem F_cartoucheref18_Diff : Tryd.prog.funcs[i_cartoucheref18_Diff]? = some Tryd.f30 := Tryd.func30
abbrev i_cartouchelaw18_same : FuncId := 31
theorem F_cartouchelaw18_same : Tryd.prog.funcs[i_cartouchelaw18_same]? = some Tryd.f31 := Tryd.func31
abbrev i_evolve_Wider : FuncId := 34
theorem F_evolve_Wider : Tryd.prog.funcs[i_evolve_Wider]? = some Tryd.f34 := Tryd.func34
abbrev i_cartoucheref18_Wider : FuncId := 35
theorem F_cartoucheref18_Wider : Tryd.prog.funcs[i_cartoucheref18_Wider]? = some Tryd.f35 := Tryd.func35
abbrev i_evolve_byName : FuncId := 53
theorem F_evolve_byName : Tryd.prog.funcs[i_evolve_byName]? = some Tryd.f53 := Tryd.func53
abbrev i_evolve_differ_add : FuncId := 54
theorem F_evolve_differ_add : Tryd.prog.funcs[i_evolve_differ_add]? = some Tryd.f54 := Tryd.func54
abbrev i_evolve_differ_enums : FuncId := 55
theorem F_evolve_differ_enums : Tryd.prog.funcs[i_evolve_differ_enums]? = some Tryd.f55 := Tryd.func55
abbrev i_evolve_differ_messages : FuncId := 56
theorem F_evolve_differ_messages : Tryd.prog.funcs[i_evolve_differ_messages]? = some Tryd.f56 := Tryd.func56
abbrev i_cartouchelaw18_More : FuncId := 57
theorem F_cartouchelaw18_More : Tryd.prog.funcs[i_cartouchelaw18_More]? = some Tryd.f57 := Tryd.func57
abbrev i_cartoucheref18_enum : FuncId := 58
theorem F_cartoucheref18_enum : Tryd.prog.funcs[i_cartoucheref18_enum]? = some Tryd.f58 := Tryd.func58
abbrev i_cartoucheref18_message : FuncId := 59
theorem F_cartoucheref18_message : Tryd.prog.funcs[i_cartoucheref18_message]? = some Tryd.f59 := Tryd.func59
abbrev i_cartoucheref18_fresh : FuncId := 61
theorem F_cartoucheref18_fresh : Tryd.prog.funcs[i_cartoucheref18_fresh]? = some Tryd.f61 := Tryd.func61
abbrev i_evolve_differ_field : FuncId := 74
theorem F_evolve_differ_field : Tryd.prog.funcs[i_evolve_differ_field]? = some Tryd.f74 := Tryd.func74
abbrev i_evolve_numbers : FuncId := 75
theorem F_evolve_numbers : Tryd.prog.funcs[i_evolve_numbers]? = some Tryd.f75 := Tryd.func75
abbrev i_slices_Equal_api_Range_api_Range : FuncId := 76
theorem F_slices_Equal_api_Range_api_Range : Tryd.prog.funcs[i_slices_Equal_api_Range_api_Range]? = some Tryd.f76 := Tryd.func76
abbrev i_evolve_class : FuncId := 77
theorem F_evolve_class : Tryd.prog.funcs[i_evolve_class]? = some Tryd.f77 := Tryd.func77
abbrev i_evolve_within : FuncId := 78
theorem F_evolve_within : Tryd.prog.funcs[i_evolve_within]? = some Tryd.f78 := Tryd.func78
abbrev i_cartoucheref18_field : FuncId := 79
theorem F_cartoucheref18_field : Tryd.prog.funcs[i_cartoucheref18_field]? = some Tryd.f79 := Tryd.func79
abbrev i_cartoucheref18_within : FuncId := 80
theorem F_cartoucheref18_within : Tryd.prog.funcs[i_cartoucheref18_within]? = some Tryd.f80 := Tryd.func80
abbrev i_evolve_differ_field_1 : FuncId := 94
theorem F_evolve_differ_field_1 : Tryd.prog.funcs[i_evolve_differ_field_1]? = some Tryd.f94 := Tryd.func94
abbrev i_evolve_relabels : FuncId := 95
theorem F_evolve_relabels : Tryd.prog.funcs[i_evolve_relabels]? = some Tryd.f95 := Tryd.func95
abbrev i_slices_ContainsFunc_api_Range_api_Range : FuncId := 96
theorem F_slices_ContainsFunc_api_Range_api_Range : Tryd.prog.funcs[i_slices_ContainsFunc_api_Range_api_Range]? = some Tryd.f96 := Tryd.func96
abbrev i_evolve_within_1 : FuncId := 97
theorem F_evolve_within_1 : Tryd.prog.funcs[i_evolve_within_1]? = some Tryd.f97 := Tryd.func97
abbrev i_cartoucheref18_labels : FuncId := 98
theorem F_cartoucheref18_labels : Tryd.prog.funcs[i_cartoucheref18_labels]? = some Tryd.f98 := Tryd.func98
abbrev i_evolve_relabels_1 : FuncId := 105
theorem F_evolve_relabels_1 : Tryd.prog.funcs[i_evolve_relabels_1]? = some Tryd.f105 := Tryd.func105
abbrev i_slices_IndexFunc_api_Range_api_Range : FuncId := 106
theorem F_slices_IndexFunc_api_Range_api_Range : Tryd.prog.funcs[i_slices_IndexFunc_api_Range_api_Range]? = some Tryd.f106 := Tryd.func106

def A_cartouchelaw18_EvolveDiffs : AFn := ⟨(.seq (.region [⟨some 2, none, .boxI (.t 0)⟩, ⟨some 3, none, .boxI (.t 1)⟩, ⟨some 4, none, .mov (.c (.bool false))⟩])
 (.seq (.region [⟨some 11, none, .load 1 true (.t 2)⟩, ⟨some 12, none, .load 1 true (.t 3)⟩, ⟨some 13, none, .call i_evolve_Diff [.t 11, .t 12]⟩, ⟨some 10, none, .mov (.t 13)⟩, ⟨some 14, none, .ext 0 (.t 10)⟩, ⟨some 15, none, .ext 1 (.t 10)⟩, ⟨some 16, none, .ext 2 (.t 10)⟩, ⟨some 5, none, .mov (.t 14)⟩, ⟨some 6, none, .mov (.t 15)⟩, ⟨some 7, none, .mov (.t 16)⟩])
 (.seq (.seq (.region [⟨some 17, none, .call i_cartouchelaw18_awake []⟩, ⟨some 18, none, .un .not (.t 17)⟩])
 (.cond (.t 18) (.seq (.region [⟨some 4, none, .mov (.c (.bool false))⟩])
    .ret)
    .skip))
 (.seq (.seq (.region [⟨some 19, none, .load 1 true (.t 2)⟩, ⟨some 20, none, .call i_cartoucheref7_Good [.t 19]⟩, ⟨some 21, none, .un .not (.t 20)⟩, ⟨some 22, none, .mov (.t 21)⟩, ⟨some 23, some (22, false), .load 1 true (.t 3)⟩, ⟨some 24, some (22, false), .call i_cartoucheref7_Good [.t 23]⟩, ⟨some 25, some (22, false), .un .not (.t 24)⟩, ⟨some 26, none, .pickb (.t 22) (.c (.bool true)) (.t 25)⟩])
 (.cond (.t 26) (.seq (.region [⟨some 27, none, .mov (.t 7)⟩, ⟨some 28, none, .bin false .eql (.t 27) (.c (.int .i64 18))⟩, ⟨some 29, none, .mov (.t 28)⟩, ⟨some 30, some (29, true), .mov (.t 5)⟩, ⟨some 31, some (29, true), .len false (.t 30)⟩, ⟨some 32, some (29, true), .bin false .eql (.t 31) (.c (.int .i64 0))⟩, ⟨some 33, none, .pickb (.t 29) (.t 32) (.c (.bool false))⟩, ⟨some 34, none, .mov (.t 33)⟩, ⟨some 35, some (34, true), .mov (.t 6)⟩, ⟨some 36, some (34, true), .bin false .eql (.t 35) (.c (.int .i64 0))⟩, ⟨some 37, none, .pickb (.t 34) (.t 36) (.c (.bool false))⟩, ⟨some 4, none, .mov (.t 37)⟩])
    .ret)
    .skip))
 (.seq (.region [⟨some 39, none, .load 1 true (.t 2)⟩, ⟨some 40, none, .load 1 true (.t 3)⟩, ⟨some 41, none, .call i_cartoucheref18_Diff [.t 39, .t 40]⟩, ⟨some 38, none, .mov (.t 41)⟩, ⟨some 42, none, .ext 0 (.t 38)⟩, ⟨some 43, none, .ext 1 (.t 38)⟩, ⟨some 8, none, .mov (.t 42)⟩, ⟨some 9, none, .mov (.t 43)⟩])
 (.seq (.region [⟨some 44, none, .mov (.t 7)⟩, ⟨some 45, none, .bin false .eql (.t 44) (.c (.int .i64 0))⟩, ⟨some 46, none, .mov (.t 45)⟩, ⟨some 47, some (46, true), .mov (.t 6)⟩, ⟨some 48, some (46, true), .mov (.t 9)⟩, ⟨some 49, some (46, true), .bin false .eql (.t 47) (.t 48)⟩, ⟨some 50, none, .pickb (.t 46) (.t 49) (.c (.bool false))⟩, ⟨some 51, none, .mov (.t 50)⟩, ⟨some 52, some (51, true), .mov (.t 5)⟩, ⟨some 53, some (51, true), .mov (.t 8)⟩, ⟨some 54, some (51, true), .call i_cartouchelaw18_same [.t 52, .t 53]⟩, ⟨some 55, none, .pickb (.t 51) (.t 54) (.c (.bool false))⟩, ⟨some 4, none, .mov (.t 55)⟩])
    .ret)))))), [.tmp 4]⟩
theorem T_cartouchelaw18_EvolveDiffs : trFn Tryd.prog [] Tryd.f6 = some A_cartouchelaw18_EvolveDiffs := by kernel_rfl
theorem L_cartouchelaw18_EvolveDiffs : 2 ≤ Tryd.f6.ntmps := by decide

def A_evolve_Diff : AFn := ⟨(.seq (.region [⟨some 2, none, .boxI (.t 0)⟩, ⟨some 3, none, .boxI (.t 1)⟩, ⟨some 4, none, .mov (.c (.nil))⟩, ⟨some 5, none, .mov (.c (.int .i64 0))⟩, ⟨some 6, none, .mov (.c (.int .i64 0))⟩])
 (.seq (.seq (.region [⟨some 21, none, .load 1 true (.t 2)⟩, ⟨some 22, none, .call i_table_Good [.t 21]⟩, ⟨some 23, none, .un .not (.t 22)⟩, ⟨some 24, none, .mov (.t 23)⟩, ⟨some 25, some (24, false), .load 1 true (.t 3)⟩, ⟨some 26, some (24, false), .call i_table_Good [.t 25]⟩, ⟨some 27, some (24, false), .un .not (.t 26)⟩, ⟨some 28, none, .pickb (.t 24) (.c (.bool true)) (.t 27)⟩])
 (.cond (.t 28) (.seq (.region [⟨some 4, none, .mov (.c (.nil))⟩, ⟨some 5, none, .mov (.c (.int .i64 0))⟩, ⟨some 6, none, .mov (.c (.int .i64 18))⟩])
    .ret)
    .skip))
 (.seq (.region [⟨some 29, none, .load 1 true (.t 2)⟩, ⟨some 30, none, .load 1 true (.t 3)⟩, ⟨some 31, none, .build [.nil, .nil, .nil] [(0, 1, .t 29), (1, 1, .t 30)]⟩, ⟨some 32, none, .box 0 (.t 31)⟩, ⟨some 7, none, .mov (.t 32)⟩])
 (.seq (.draw [1, 3, 1000000, 1000002, 2000003, 4000000, 4000001, 4000002, 4000003, 4000004, 4000080] [⟨some 33, none, .load 1 true (.t 2)⟩, ⟨some 34, none, .call i_evolve_byName [.t 33]⟩, ⟨some 35, none, .load 1 true (.t 3)⟩, ⟨some 36, none, .call i_evolve_byName [.t 35]⟩, ⟨some 8, none, .mov (.t 34)⟩, ⟨some 9, none, .mov (.t 36)⟩])
 (.seq (.seq (.region [⟨some 37, none, .fldA 0 1 false (.t 2)⟩, ⟨some 38, none, .load 1 false (.t 37)⟩, ⟨some 39, none, .len false (.t 38)⟩, ⟨some 40, none, .mov (.c (.int .i64 0))⟩])
 (.block 0 (.loop (.seq (.region [⟨some 41, none, .bin false .lss (.t 40) (.t 39)⟩])
 (.seq (.cond (.t 41) .skip
 (.exit 0))
 (.seq (.block 1 (.seq (.region [⟨some 42, none, .idxA 6 (.t 38) (.t 40)⟩, ⟨some 43, none, .load 6 true (.t 42)⟩, ⟨some 11, none, .alloc 1 [.str ⟨#[]⟩, .bool false, .nil, .nil, .nil, .nil]⟩, ⟨none, none, .store 6 (.t 11) (.t 43)⟩])
 (.seq (.region [⟨some 45, none, .mov (.t 9)⟩, ⟨some 46, none, .fldA 0 1 false (.t 11)⟩, ⟨some 47, none, .load 1 false (.t 46)⟩, ⟨some 48, none, .look .str (.int .i64 0) true (.t 45) (.t 47)⟩, ⟨some 44, none, .mov (.t 48)⟩, ⟨some 49, none, .ext 0 (.t 44)⟩, ⟨some 50, none, .ext 1 (.t 44)⟩, ⟨some 12, none, .mov (.t 49)⟩, ⟨some 13, none, .mov (.t 50)⟩])
 (.block 2 (.seq (.region [⟨some 60, none, .mov (.t 13)⟩, ⟨some 61, none, .un .not (.t 60)⟩, ⟨some 59, none, .mov (.t 61)⟩])
 (.cond (.t 59) (.region [⟨some 62, none, .mov (.t 7)⟩, ⟨some 63, none, .fldA 0 1 false (.t 11)⟩, ⟨some 64, none, .load 1 false (.t 63)⟩, ⟨some 65, none, .call i_evolve_differ_add [.t 62, .c (.int .i64 4), .c (.int .i64 1), .t 64, .c (.int .i64 0)]⟩])
 (.seq (.draw [1000001, 1000003, 1000005, 1000007, 4000000, 4000001, 4000002, 4000003, 4000004, 4000080] [⟨some 67, none, .fldA 1 1 false (.t 11)⟩, ⟨some 68, none, .load 1 false (.t 67)⟩, ⟨some 69, none, .fldA 0 1 false (.t 3)⟩, ⟨some 70, none, .load 1 false (.t 69)⟩, ⟨some 71, none, .mov (.t 12)⟩, ⟨some 72, none, .idxA 6 (.t 70) (.t 71)⟩, ⟨some 73, none, .fldA 1 1 false (.t 72)⟩, ⟨some 74, none, .load 1 false (.t 73)⟩, ⟨some 75, none, .bin true .neq (.t 68) (.t 74)⟩, ⟨some 66, none, .mov (.t 75)⟩])
 (.cond (.t 66) (.region [⟨some 76, none, .mov (.t 7)⟩, ⟨some 77, none, .fldA 0 1 false (.t 11)⟩, ⟨some 78, none, .load 1 false (.t 77)⟩, ⟨some 79, none, .call i_evolve_differ_add [.t 76, .c (.int .i64 4), .c (.int .i64 2), .t 78, .c (.int .i64 0)]⟩])
 (.seq (.region [⟨some 81, none, .fldA 1 1 false (.t 11)⟩, ⟨some 82, none, .load 1 false (.t 81)⟩, ⟨some 80, none, .mov (.t 82)⟩])
 (.cond (.t 80) (.draw [7, 1000001, 1000003, 1000005, 1000006, 2000007, 4000000, 4000001, 4000002, 4000003, 4000004, 4000080] [⟨some 83, none, .mov (.t 7)⟩, ⟨some 84, none, .load 6 true (.t 11)⟩, ⟨some 85, none, .fldA 0 1 false (.t 3)⟩, ⟨some 86, none, .load 1 false (.t 85)⟩, ⟨some 87, none, .mov (.t 12)⟩, ⟨some 88, none, .idxA 6 (.t 86) (.t 87)⟩, ⟨some 89, none, .load 6 true (.t 88)⟩, ⟨some 90, none, .call i_evolve_differ_enums [.t 83, .t 84, .t 89]⟩])
 (.draw [7, 1000001, 1000003, 1000005, 1000006, 2000007, 4000000, 4000001, 4000002, 4000003, 4000004, 4000080] [⟨some 51, none, .mov (.t 7)⟩, ⟨some 52, none, .load 6 true (.t 11)⟩, ⟨some 53, none, .fldA 0 1 false (.t 3)⟩, ⟨some 54, none, .load 1 false (.t 53)⟩, ⟨some 55, none, .mov (.t 12)⟩, ⟨some 56, none, .idxA 6 (.t 54) (.t 55)⟩, ⟨some 57, none, .load 6 true (.t 56)⟩, ⟨some 58, none, .call i_evolve_differ_messages [.t 51, .t 52, .t 57]⟩])))))))))))
 (.region [⟨some 91, none, .bin false .add (.t 40) (.c (.int .i64 1))⟩, ⟨some 40, none, .mov (.t 91)⟩])))))))
 (.seq (.seq (.region [⟨some 92, none, .fldA 0 1 false (.t 3)⟩, ⟨some 93, none, .load 1 false (.t 92)⟩, ⟨some 94, none, .len false (.t 93)⟩, ⟨some 95, none, .mov (.c (.int .i64 0))⟩])
 (.block 3 (.loop (.seq (.region [⟨some 96, none, .bin false .lss (.t 95) (.t 94)⟩])
 (.seq (.cond (.t 96) .skip
 (.exit 3))
 (.seq (.block 4 (.seq (.region [⟨some 97, none, .idxA 6 (.t 93) (.t 95)⟩, ⟨some 98, none, .load 6 true (.t 97)⟩, ⟨some 15, none, .alloc 2 [.str ⟨#[]⟩, .bool false, .nil, .nil, .nil, .nil]⟩, ⟨none, none, .store 6 (.t 15) (.t 98)⟩])
 (.seq (.region [⟨some 100, none, .mov (.t 8)⟩, ⟨some 101, none, .fldA 0 1 false (.t 15)⟩, ⟨some 102, none, .load 1 false (.t 101)⟩, ⟨some 103, none, .look .str (.int .i64 0) true (.t 100) (.t 102)⟩, ⟨some 99, none, .mov (.t 103)⟩, ⟨some 104, none, .ext 0 (.t 99)⟩, ⟨some 105, none, .ext 1 (.t 99)⟩, ⟨some 16, none, .mov (.t 104)⟩, ⟨some 17, none, .mov (.t 105)⟩])
 (.seq (.region [⟨some 106, none, .mov (.t 17)⟩, ⟨some 107, none, .un .not (.t 106)⟩])
 (.cond (.t 107) (.region [⟨some 108, none, .mov (.t 7)⟩, ⟨some 109, none, .fldA 0 1 false (.t 15)⟩, ⟨some 110, none, .load 1 false (.t 109)⟩, ⟨some 111, none, .call i_evolve_differ_add [.t 108, .c (.int .i64 2), .c (.int .i64 11), .t 110, .c (.int .i64 0)]⟩])
    .skip)))))
 (.region [⟨some 112, none, .bin false .add (.t 95) (.c (.int .i64 1))⟩, ⟨some 95, none, .mov (.t 112)⟩])))))))
 (.seq (.region [⟨some 18, none, .mov (.c (.int .i64 1))⟩])
 (.seq (.seq (.region [⟨some 113, none, .mov (.t 7)⟩, ⟨some 114, none, .nilck (.t 113)⟩, ⟨some 115, none, .fldA 2 1 false (.t 114)⟩, ⟨some 116, none, .load 1 false (.t 115)⟩, ⟨some 117, none, .len false (.t 116)⟩, ⟨some 118, none, .mov (.c (.int .i64 0))⟩])
 (.block 5 (.loop (.seq (.region [⟨some 119, none, .bin false .lss (.t 118) (.t 117)⟩])
 (.seq (.cond (.t 119) .skip
 (.exit 5))
 (.seq (.block 6 (.seq (.region [⟨some 120, none, .idxA 4 (.t 116) (.t 118)⟩, ⟨some 121, none, .load 4 true (.t 120)⟩, ⟨some 20, none, .alloc 3 [.int .i64 0, .int .i64 0, .str ⟨#[]⟩, .int .i64 0]⟩, ⟨none, none, .store 4 (.t 20) (.t 121)⟩])
 (.region [⟨some 122, none, .mov (.t 18)⟩, ⟨some 123, none, .fldA 0 1 false (.t 20)⟩, ⟨some 124, none, .load 1 false (.t 123)⟩, ⟨some 125, none, .mm true (.t 122) (.t 124)⟩, ⟨some 18, none, .mov (.t 125)⟩])))
 (.region [⟨some 126, none, .bin false .add (.t 118) (.c (.int .i64 1))⟩, ⟨some 118, none, .mov (.t 126)⟩])))))))
 (.seq (.draw [5, 10, 1000003, 1000004, 1000009, 2000010, 4000000, 4000001, 4000002, 4000003, 4000080] [⟨some 127, none, .mov (.t 7)⟩, ⟨some 128, none, .nilck (.t 127)⟩, ⟨some 129, none, .fldA 2 1 false (.t 128)⟩, ⟨some 130, none, .load 1 false (.t 129)⟩, ⟨some 131, none, .len false (.t 130)⟩, ⟨some 132, none, .mks 4 70 4 40 (.agg [.int .i64 0, .int .i64 0, .str ⟨#[]⟩, .int .i64 0]) (.c (.int .i64 0)) (.t 131)⟩, ⟨some 133, none, .mov (.t 7)⟩, ⟨some 134, none, .nilck (.t 133)⟩, ⟨some 135, none, .fldA 2 1 false (.t 134)⟩, ⟨some 136, none, .load 1 false (.t 135)⟩, ⟨some 137, none, .app 4 70 4 40 (.t 132) (.t 136)⟩, ⟨some 138, none, .mov (.t 18)⟩, ⟨some 4, none, .mov (.t 137)⟩, ⟨some 5, none, .mov (.t 138)⟩, ⟨some 6, none, .mov (.c (.int .i64 0))⟩])
    .ret))))))))), [.tmp 4, .tmp 5, .tmp 6]⟩
theorem T_evolve_Diff : trFn Tryd.prog [(3, [0, 0, 0, 1, 0]), (7, [0, 0, 2, 0]), (19, [0, 0, 3, 0]), (27, [0, 0, 4, 0]), (30, [0, 0, 0, 0, 0, 4, 0, 0, 0, 0, 4, 0, 0, 0, 0]), (1000004, [1, 3, 1000000, 1000002, 2000003, 4000000, 4000001, 4000002, 4000003, 4000004, 4000080]), (1000009, [7, 1000001, 1000003, 1000005, 1000006, 2000007, 4000000, 4000001, 4000002, 4000003, 4000004, 4000080]), (1000012, [1000001, 1000003, 1000005, 1000007, 4000000, 4000001, 4000002, 4000003, 4000004, 4000080]), (1000015, [7, 1000001, 1000003, 1000005, 1000006, 2000007, 4000000, 4000001, 4000002, 4000003, 4000004, 4000080]), (1000030, [5, 10, 1000003, 1000004, 1000009, 2000010, 4000000, 4000001, 4000002, 4000003, 4000080])] Tryd.f28 = some A_evolve_Diff := by kernel_rfl
theorem L_evolve_Diff : 2 ≤ Tryd.f28.ntmps := by decide

def A_cartouchelaw18_awake : AFn := ⟨(.seq (.region [⟨some 0, none, .mov (.c (.bool false))⟩])
 (.seq (.region [⟨some 5, none, .call i_cartouchelaw7_Simple []⟩, ⟨some 6, none, .call i_cartouchelaw18_More []⟩, ⟨some 7, none, .call i_evolve_Diff [.t 5, .t 6]⟩, ⟨some 4, none, .mov (.t 7)⟩, ⟨some 8, none, .ext 0 (.t 4)⟩, ⟨some 9, none, .ext 1 (.t 4)⟩, ⟨some 10, none, .ext 2 (.t 4)⟩, ⟨some 1, none, .mov (.t 8)⟩, ⟨some 2, none, .mov (.t 9)⟩, ⟨some 3, none, .mov (.t 10)⟩])
 (.seq (.region [⟨some 11, none, .mov (.t 3)⟩, ⟨some 12, none, .bin false .eql (.t 11) (.c (.int .i64 0))⟩, ⟨some 13, none, .mov (.t 12)⟩, ⟨some 14, some (13, true), .mov (.t 2)⟩, ⟨some 15, some (13, true), .bin false .eql (.t 14) (.c (.int .i64 2))⟩, ⟨some 16, none, .pickb (.t 13) (.t 15) (.c (.bool false))⟩, ⟨some 17, none, .mov (.t 16)⟩, ⟨some 18, some (17, true), .mov (.t 1)⟩, ⟨some 19, some (17, true), .build [.int .i64 0, .int .i64 0, .str ⟨#[]⟩, .int .i64 0] [(0, 1, .c (.int .i64 2)), (1, 1, .c (.int .i64 6)), (2, 1, .c (.str ⟨#[77]⟩)), (3, 1, .c (.int .i64 4))]⟩, ⟨some 20, some (17, true), .bslice 4 [.t 19]⟩, ⟨some 21, some (17, true), .call i_cartouchelaw18_same [.t 18, .t 20]⟩, ⟨some 22, none, .pickb (.t 17) (.t 21) (.c (.bool false))⟩, ⟨some 0, none, .mov (.t 22)⟩])
    .ret))), [.tmp 0]⟩
theorem T_cartouchelaw18_awake : trFn Tryd.prog [] Tryd.f29 = some A_cartouchelaw18_awake := by kernel_rfl
theorem L_cartouchelaw18_awake : 0 ≤ Tryd.f29.ntmps := by decide

def A_cartouchelaw18_same : AFn := ⟨(.seq (.region [⟨some 4, none, .mov (.c (.bool false))⟩])
 (.seq (.seq (.region [⟨some 6, none, .mov (.t 0)⟩, ⟨some 7, none, .len false (.t 6)⟩, ⟨some 8, none, .mov (.t 1)⟩, ⟨some 9, none, .len false (.t 8)⟩, ⟨some 10, none, .bin false .neq (.t 7) (.t 9)⟩])
 (.cond (.t 10) (.seq (.region [⟨some 4, none, .mov (.c (.bool false))⟩])
    .ret)
    .skip))
 (.seq (.seq (.region [⟨some 5, none, .mov (.c (.int .i64 0))⟩])
 (.block 0 (.loop (.seq (.seq (.region [⟨some 11, none, .mov (.t 5)⟩, ⟨some 12, none, .mov (.t 0)⟩, ⟨some 13, none, .len false (.t 12)⟩, ⟨some 14, none, .bin false .lss (.t 11) (.t 13)⟩])
 (.cond (.t 14) .skip
 (.exit 0)))
 (.seq (.block 1 (.seq (.draw [1000002, 1000004, 1000007, 1000009, 1000014, 1000016, 1000019, 1000021, 1000027, 1000029, 1000032, 1000034, 1000040, 1000042, 1000045, 1000047] [⟨some 17, none, .mov (.t 0)⟩, ⟨some 18, none, .mov (.t 5)⟩, ⟨some 19, none, .idxA 4 (.t 17) (.t 18)⟩, ⟨some 20, none, .fldA 0 1 false (.t 19)⟩, ⟨some 21, none, .load 1 false (.t 20)⟩, ⟨some 22, none, .mov (.t 1)⟩, ⟨some 23, none, .mov (.t 5)⟩, ⟨some 24, none, .idxA 4 (.t 22) (.t 23)⟩, ⟨some 25, none, .fldA 0 1 false (.t 24)⟩, ⟨some 26, none, .load 1 false (.t 25)⟩, ⟨some 27, none, .bin false .neq (.t 21) (.t 26)⟩, ⟨some 28, none, .mov (.t 27)⟩, ⟨some 29, some (28, false), .mov (.t 0)⟩, ⟨some 30, some (28, false), .mov (.t 5)⟩, ⟨some 31, some (28, false), .idxA 4 (.t 29) (.t 30)⟩, ⟨some 32, some (28, false), .fldA 1 1 false (.t 31)⟩, ⟨some 33, some (28, false), .load 1 false (.t 32)⟩, ⟨some 34, some (28, false), .mov (.t 1)⟩, ⟨some 35, some (28, false), .mov (.t 5)⟩, ⟨some 36, some (28, false), .idxA 4 (.t 34) (.t 35)⟩, ⟨some 37, some (28, false), .fldA 1 1 false (.t 36)⟩, ⟨some 38, some (28, false), .load 1 false (.t 37)⟩, ⟨some 39, some (28, false), .bin false .neq (.t 33) (.t 38)⟩, ⟨some 40, none, .pickb (.t 28) (.c (.bool true)) (.t 39)⟩, ⟨some 41, none, .mov (.t 40)⟩, ⟨some 42, some (41, false), .mov (.t 0)⟩, ⟨some 43, some (41, false), .mov (.t 5)⟩, ⟨some 44, some (41, false), .idxA 4 (.t 42) (.t 43)⟩, ⟨some 45, some (41, false), .fldA 2 1 false (.t 44)⟩, ⟨some 46, some (41, false), .load 1 false (.t 45)⟩, ⟨some 47, some (41, false), .mov (.t 1)⟩, ⟨some 48, some (41, false), .mov (.t 5)⟩, ⟨some 49, some (41, false), .idxA 4 (.t 47) (.t 48)⟩, ⟨some 50, some (41, false), .fldA 2 1 false (.t 49)⟩, ⟨some 51, some (41, false), .load 1 false (.t 50)⟩, ⟨some 52, some (41, false), .bin false .neq (.t 46) (.t 51)⟩, ⟨some 53, none, .pickb (.t 41) (.c (.bool true)) (.t 52)⟩, ⟨some 54, none, .mov (.t 53)⟩, ⟨some 55, some (54, false), .mov (.t 0)⟩, ⟨some 56, some (54, false), .mov (.t 5)⟩, ⟨some 57, some (54, false), .idxA 4 (.t 55) (.t 56)⟩, ⟨some 58, some (54, false), .fldA 3 1 false (.t 57)⟩, ⟨some 59, some (54, false), .load 1 false (.t 58)⟩, ⟨some 60, some (54, false), .mov (.t 1)⟩, ⟨some 61, some (54, false), .mov (.t 5)⟩, ⟨some 62, some (54, false), .idxA 4 (.t 60) (.t 61)⟩, ⟨some 63, some (54, false), .fldA 3 1 false (.t 62)⟩, ⟨some 64, some (54, false), .load 1 false (.t 63)⟩, ⟨some 65, some (54, false), .bin false .neq (.t 59) (.t 64)⟩, ⟨some 66, none, .pickb (.t 54) (.c (.bool true)) (.t 65)⟩])
 (.cond (.t 66) (.seq (.region [⟨some 4, none, .mov (.c (.bool false))⟩])
    .ret)
    .skip)))
 (.region [⟨some 15, none, .mov (.t 5)⟩, ⟨some 16, none, .bin false .add (.t 15) (.c (.int .i64 1))⟩, ⟨some 5, none, .mov (.t 16)⟩]))))))
 (.seq (.region [⟨some 4, none, .mov (.c (.bool true))⟩])
    .ret)))), [.tmp 4]⟩
theorem T_cartouchelaw18_same : trFn Tryd.prog [(1000006, [1000002, 1000004, 1000007, 1000009, 1000014, 1000016, 1000019, 1000021, 1000027, 1000029, 1000032, 1000034, 1000040, 1000042, 1000045, 1000047])] Tryd.f31 = some A_cartouchelaw18_same := by kernel_rfl
theorem L_cartouchelaw18_same : 2 ≤ Tryd.f31.ntmps := by decide

def A_evolve_Wider : AFn := ⟨(.seq (.region [⟨some 4, none, .mov (.c (.bool false))⟩])
 (.seq (.seq (.region [⟨some 5, none, .mov (.t 0)⟩])
 (.block 0 (.seq (.region [⟨some 7, none, .bin false .eql (.t 5) (.c (.int .i64 2))⟩, ⟨some 6, none, .mov (.t 7)⟩])
 (.cond (.t 6) (.seq (.region [⟨some 8, none, .mov (.t 1)⟩, ⟨some 9, none, .bin false .eql (.t 8) (.c (.int .i64 3))⟩, ⟨some 4, none, .mov (.t 9)⟩])
    .ret)
 (.seq (.region [⟨some 11, none, .bin false .eql (.t 5) (.c (.int .i64 4))⟩, ⟨some 10, none, .mov (.t 11)⟩])
 (.cond (.t 10) (.seq (.region [⟨some 12, none, .mov (.t 1)⟩, ⟨some 13, none, .bin false .eql (.t 12) (.c (.int .i64 5))⟩, ⟨some 4, none, .mov (.t 13)⟩])
    .ret)
 (.seq (.region [⟨some 15, none, .bin false .eql (.t 5) (.c (.int .i64 6))⟩, ⟨some 14, none, .mov (.t 15)⟩])
 (.cond (.t 14) (.seq (.region [⟨some 16, none, .mov (.t 1)⟩, ⟨some 17, none, .bin false .eql (.t 16) (.c (.int .i64 7))⟩, ⟨some 4, none, .mov (.t 17)⟩])
    .ret)
 (.seq (.region [⟨some 19, none, .bin false .eql (.t 5) (.c (.int .i64 1))⟩, ⟨some 18, none, .mov (.t 19)⟩])
 (.cond (.t 18) (.seq (.region [⟨some 20, none, .mov (.t 1)⟩, ⟨some 21, none, .bin false .eql (.t 20) (.c (.int .i64 2))⟩, ⟨some 22, none, .mov (.t 21)⟩, ⟨some 23, some (22, false), .mov (.t 1)⟩, ⟨some 24, some (22, false), .bin false .eql (.t 23) (.c (.int .i64 3))⟩, ⟨some 25, none, .pickb (.t 22) (.c (.bool true)) (.t 24)⟩, ⟨some 26, none, .mov (.t 25)⟩, ⟨some 27, some (26, false), .mov (.t 1)⟩, ⟨some 28, some (26, false), .bin false .eql (.t 27) (.c (.int .i64 4))⟩, ⟨some 29, none, .pickb (.t 26) (.c (.bool true)) (.t 28)⟩, ⟨some 30, none, .mov (.t 29)⟩, ⟨some 31, some (30, false), .mov (.t 1)⟩, ⟨some 32, some (30, false), .bin false .eql (.t 31) (.c (.int .i64 5))⟩, ⟨some 33, none, .pickb (.t 30) (.c (.bool true)) (.t 32)⟩, ⟨some 4, none, .mov (.t 33)⟩])
    .ret)
 (.seq (.region [⟨some 35, none, .bin false .eql (.t 5) (.c (.int .i64 16))⟩, ⟨some 34, none, .mov (.t 35)⟩])
 (.cond (.t 34) (.seq (.region [⟨some 36, none, .mov (.t 1)⟩, ⟨some 37, none, .bin false .eql (.t 36) (.c (.int .i64 2))⟩, ⟨some 38, none, .mov (.t 37)⟩, ⟨some 39, some (38, false), .mov (.t 1)⟩, ⟨some 40, some (38, false), .bin false .eql (.t 39) (.c (.int .i64 3))⟩, ⟨some 41, none, .pickb (.t 38) (.c (.bool true)) (.t 40)⟩, ⟨some 4, none, .mov (.t 41)⟩])
    .ret)
 (.seq (.region [⟨some 43, none, .bin false .eql (.t 5) (.c (.int .i64 14))⟩, ⟨some 42, none, .mov (.t 43)⟩])
 (.cond (.t 42) (.seq (.region [⟨some 44, none, .mov (.t 1)⟩, ⟨some 45, none, .bin false .eql (.t 44) (.c (.int .i64 15))⟩, ⟨some 4, none, .mov (.t 45)⟩])
    .ret)
    .skip))))))))))))))
 (.seq (.region [⟨some 4, none, .mov (.c (.bool false))⟩])
    .ret))), [.tmp 4]⟩
theorem T_evolve_Wider : trFn Tryd.prog [] Tryd.f34 = some A_evolve_Wider := by kernel_rfl
theorem L_evolve_Wider : 2 ≤ Tryd.f34.ntmps := by decide

def A_cartoucheref18_Wider : AFn := ⟨(.seq (.region [⟨some 4, none, .mov (.c (.bool false))⟩])
 (.seq (.seq (.region [⟨some 5, none, .mov (.t 0)⟩])
 (.block 0 (.seq (.region [⟨some 7, none, .bin false .eql (.t 5) (.c (.int .i64 1))⟩, ⟨some 6, none, .mov (.t 7)⟩])
 (.cond (.t 6) (.seq (.region [⟨some 8, none, .mov (.t 1)⟩, ⟨some 9, none, .bin false .eql (.t 8) (.c (.int .i64 2))⟩, ⟨some 10, none, .mov (.t 9)⟩, ⟨some 11, some (10, false), .mov (.t 1)⟩, ⟨some 12, some (10, false), .bin false .eql (.t 11) (.c (.int .i64 3))⟩, ⟨some 13, none, .pickb (.t 10) (.c (.bool true)) (.t 12)⟩, ⟨some 14, none, .mov (.t 13)⟩, ⟨some 15, some (14, false), .mov (.t 1)⟩, ⟨some 16, some (14, false), .bin false .eql (.t 15) (.c (.int .i64 4))⟩, ⟨some 17, none, .pickb (.t 14) (.c (.bool true)) (.t 16)⟩, ⟨some 18, none, .mov (.t 17)⟩, ⟨some 19, some (18, false), .mov (.t 1)⟩, ⟨some 20, some (18, false), .bin false .eql (.t 19) (.c (.int .i64 5))⟩, ⟨some 21, none, .pickb (.t 18) (.c (.bool true)) (.t 20)⟩, ⟨some 4, none, .mov (.t 21)⟩])
    .ret)
 (.seq (.region [⟨some 23, none, .bin false .eql (.t 5) (.c (.int .i64 2))⟩, ⟨some 22, none, .mov (.t 23)⟩])
 (.cond (.t 22) (.seq (.region [⟨some 24, none, .mov (.t 1)⟩, ⟨some 25, none, .bin false .eql (.t 24) (.c (.int .i64 3))⟩, ⟨some 4, none, .mov (.t 25)⟩])
    .ret)
 (.seq (.region [⟨some 27, none, .bin false .eql (.t 5) (.c (.int .i64 4))⟩, ⟨some 26, none, .mov (.t 27)⟩])
 (.cond (.t 26) (.seq (.region [⟨some 28, none, .mov (.t 1)⟩, ⟨some 29, none, .bin false .eql (.t 28) (.c (.int .i64 5))⟩, ⟨some 4, none, .mov (.t 29)⟩])
    .ret)
 (.seq (.region [⟨some 31, none, .bin false .eql (.t 5) (.c (.int .i64 6))⟩, ⟨some 30, none, .mov (.t 31)⟩])
 (.cond (.t 30) (.seq (.region [⟨some 32, none, .mov (.t 1)⟩, ⟨some 33, none, .bin false .eql (.t 32) (.c (.int .i64 7))⟩, ⟨some 4, none, .mov (.t 33)⟩])
    .ret)
 (.seq (.region [⟨some 35, none, .bin false .eql (.t 5) (.c (.int .i64 14))⟩, ⟨some 34, none, .mov (.t 35)⟩])
 (.cond (.t 34) (.seq (.region [⟨some 36, none, .mov (.t 1)⟩, ⟨some 37, none, .bin false .eql (.t 36) (.c (.int .i64 15))⟩, ⟨some 4, none, .mov (.t 37)⟩])
    .ret)
 (.seq (.region [⟨some 39, none, .bin false .eql (.t 5) (.c (.int .i64 16))⟩, ⟨some 38, none, .mov (.t 39)⟩])
 (.cond (.t 38) (.seq (.region [⟨some 40, none, .mov (.t 1)⟩, ⟨some 41, none, .bin false .eql (.t 40) (.c (.int .i64 2))⟩, ⟨some 42, none, .mov (.t 41)⟩, ⟨some 43, some (42, false), .mov (.t 1)⟩, ⟨some 44, some (42, false), .bin false .eql (.t 43) (.c (.int .i64 3))⟩, ⟨some 45, none, .pickb (.t 42) (.c (.bool true)) (.t 44)⟩, ⟨some 4, none, .mov (.t 45)⟩])
    .ret)
    .skip))))))))))))))
 (.seq (.region [⟨some 4, none, .mov (.c (.bool false))⟩])
    .ret))), [.tmp 4]⟩
theorem T_cartoucheref18_Wider : trFn Tryd.prog [] Tryd.f35 = some A_cartoucheref18_Wider := by kernel_rfl
theorem L_cartoucheref18_Wider : 2 ≤ Tryd.f35.ntmps := by decide

def A_evolve_byName : AFn := ⟨(.seq (.region [⟨some 1, none, .boxI (.t 0)⟩, ⟨some 2, none, .mov (.c (.nilmap))⟩])
 (.seq (.region [⟨some 6, none, .mkmap 90 .str⟩, ⟨some 3, none, .mov (.t 6)⟩])
 (.seq (.seq (.region [⟨some 7, none, .fldA 0 1 false (.t 1)⟩, ⟨some 8, none, .load 1 false (.t 7)⟩, ⟨some 9, none, .len false (.t 8)⟩, ⟨some 10, none, .mov (.c (.int .i64 0))⟩])
 (.block 0 (.loop (.seq (.region [⟨some 11, none, .bin false .lss (.t 10) (.t 9)⟩])
 (.seq (.cond (.t 11) .skip
 (.exit 0))
 (.seq (.block 1 (.seq (.region [⟨some 12, none, .mov (.t 10)⟩, ⟨some 13, none, .idxA 6 (.t 8) (.t 10)⟩, ⟨some 14, none, .load 6 true (.t 13)⟩, ⟨some 5, none, .alloc 91 [.str ⟨#[]⟩, .bool false, .nil, .nil, .nil, .nil]⟩, ⟨some 4, none, .mov (.t 12)⟩, ⟨none, none, .store 6 (.t 5) (.t 14)⟩])
 (.region [⟨some 15, none, .mov (.t 3)⟩, ⟨some 16, none, .fldA 0 1 false (.t 5)⟩, ⟨some 17, none, .load 1 false (.t 16)⟩, ⟨some 18, none, .mov (.t 4)⟩, ⟨none, none, .mapset .str (.t 15) (.t 17) (.t 18)⟩])))
 (.region [⟨some 19, none, .bin false .add (.t 10) (.c (.int .i64 1))⟩, ⟨some 10, none, .mov (.t 19)⟩])))))))
 (.seq (.region [⟨some 20, none, .mov (.t 3)⟩, ⟨some 2, none, .mov (.t 20)⟩])
    .ret)))), [.tmp 2]⟩
theorem T_evolve_byName : trFn Tryd.prog [(1, [90, 0]), (4, [0, 0, 0, 92, 0, 0])] Tryd.f53 = some A_evolve_byName := by kernel_rfl
theorem L_evolve_byName : 1 ≤ Tryd.f53.ntmps := by decide

def A_evolve_differ_add : AFn := ⟨(.region [⟨some 10, none, .mov (.t 0)⟩, ⟨some 11, none, .mov (.t 0)⟩, ⟨some 12, none, .nilck (.t 11)⟩, ⟨some 13, none, .fldA 2 1 false (.t 12)⟩, ⟨some 14, none, .load 1 false (.t 13)⟩, ⟨some 15, none, .mov (.t 1)⟩, ⟨some 16, none, .mov (.t 2)⟩, ⟨some 17, none, .mov (.t 3)⟩, ⟨some 18, none, .mov (.t 4)⟩, ⟨some 19, none, .build [.int .i64 0, .int .i64 0, .str ⟨#[]⟩, .int .i64 0] [(0, 1, .t 15), (1, 1, .t 16), (2, 1, .t 17), (3, 1, .t 18)]⟩, ⟨some 20, none, .bslice 4 [.t 19]⟩, ⟨some 21, none, .app 80 70 4 40 (.t 14) (.t 20)⟩, ⟨some 22, none, .nilck (.t 10)⟩, ⟨some 23, none, .fldA 2 1 false (.t 22)⟩, ⟨none, none, .store 1 (.t 23) (.t 21)⟩]), []⟩
theorem T_evolve_differ_add : trFn Tryd.prog [(0, [0, 0, 0, 0, 0, 0, 0, 0, 0, 0, 0, 80, 0, 0, 0])] Tryd.f54 = some A_evolve_differ_add := by kernel_rfl
theorem L_evolve_differ_add : 5 ≤ Tryd.f54.ntmps := by decide

def A_evolve_differ_enums : AFn := ⟨(.seq (.region [⟨some 4, none, .boxI (.t 1)⟩, ⟨some 5, none, .boxI (.t 2)⟩])
 (.seq (.seq (.region [⟨some 14, none, .fldA 4 1 false (.t 4)⟩, ⟨some 15, none, .load 1 false (.t 14)⟩, ⟨some 16, none, .len false (.t 15)⟩, ⟨some 17, none, .mov (.c (.int .i64 0))⟩])
 (.block 0 (.loop (.seq (.region [⟨some 18, none, .bin false .lss (.t 17) (.t 16)⟩])
 (.seq (.cond (.t 18) .skip
 (.exit 0))
 (.seq (.block 1 (.seq (.region [⟨some 19, none, .idxA 2 (.t 15) (.t 17)⟩, ⟨some 20, none, .load 2 true (.t 19)⟩, ⟨some 7, none, .alloc 84 [.str ⟨#[]⟩, .int .i64 0]⟩, ⟨none, none, .store 2 (.t 7) (.t 20)⟩])
 (.seq (.region [⟨some 22, none, .load 6 true (.t 5)⟩, ⟨some 23, none, .fldA 1 1 false (.t 7)⟩, ⟨some 24, none, .load 1 false (.t 23)⟩, ⟨some 25, none, .call i_table_SymbolAt [.t 22, .t 24]⟩, ⟨some 21, none, .mov (.t 25)⟩, ⟨some 26, none, .ext 0 (.t 21)⟩, ⟨some 27, none, .ext 1 (.t 21)⟩, ⟨some 8, none, .mov (.t 26)⟩, ⟨some 9, none, .mov (.t 27)⟩])
 (.block 2 (.seq (.region [⟨some 29, none, .mov (.t 9)⟩, ⟨some 30, none, .un .not (.t 29)⟩, ⟨some 28, none, .mov (.t 30)⟩])
 (.cond (.t 28) (.region [⟨some 31, none, .mov (.t 0)⟩, ⟨some 32, none, .fldA 0 1 false (.t 4)⟩, ⟨some 33, none, .load 1 false (.t 32)⟩, ⟨some 34, none, .fldA 1 1 false (.t 7)⟩, ⟨some 35, none, .load 1 false (.t 34)⟩, ⟨some 36, none, .call i_evolve_differ_add [.t 31, .c (.int .i64 4), .c (.int .i64 3), .t 33, .t 35]⟩])
 (.seq (.region [⟨some 38, none, .mov (.t 8)⟩, ⟨some 39, none, .fldA 0 1 false (.t 7)⟩, ⟨some 40, none, .load 1 false (.t 39)⟩, ⟨some 41, none, .bin false .neq (.t 38) (.t 40)⟩, ⟨some 37, none, .mov (.t 41)⟩])
 (.cond (.t 37) (.region [⟨some 42, none, .mov (.t 0)⟩, ⟨some 43, none, .fldA 0 1 false (.t 4)⟩, ⟨some 44, none, .load 1 false (.t 43)⟩, ⟨some 45, none, .fldA 1 1 false (.t 7)⟩, ⟨some 46, none, .load 1 false (.t 45)⟩, ⟨some 47, none, .call i_evolve_differ_add [.t 42, .c (.int .i64 3), .c (.int .i64 7), .t 44, .t 46]⟩])
    .skip))))))))
 (.region [⟨some 48, none, .bin false .add (.t 17) (.c (.int .i64 1))⟩, ⟨some 17, none, .mov (.t 48)⟩])))))))
 (.seq (.region [⟨some 49, none, .fldA 4 1 false (.t 5)⟩, ⟨some 50, none, .load 1 false (.t 49)⟩, ⟨some 51, none, .len false (.t 50)⟩, ⟨some 52, none, .mov (.c (.int .i64 0))⟩])
 (.block 3 (.loop (.seq (.region [⟨some 53, none, .bin false .lss (.t 52) (.t 51)⟩])
 (.seq (.cond (.t 53) .skip
 (.exit 3))
 (.seq (.block 4 (.seq (.region [⟨some 54, none, .idxA 2 (.t 50) (.t 52)⟩, ⟨some 55, none, .load 2 true (.t 54)⟩, ⟨some 11, none, .alloc 85 [.str ⟨#[]⟩, .int .i64 0]⟩, ⟨none, none, .store 2 (.t 11) (.t 55)⟩])
 (.seq (.region [⟨some 57, none, .load 6 true (.t 4)⟩, ⟨some 58, none, .fldA 1 1 false (.t 11)⟩, ⟨some 59, none, .load 1 false (.t 58)⟩, ⟨some 60, none, .call i_table_SymbolAt [.t 57, .t 59]⟩, ⟨some 56, none, .mov (.t 60)⟩, ⟨some 61, none, .ext 0 (.t 56)⟩, ⟨some 62, none, .ext 1 (.t 56)⟩, ⟨some 12, none, .mov (.t 61)⟩, ⟨some 13, none, .mov (.t 62)⟩])
 (.seq (.region [⟨some 63, none, .mov (.t 13)⟩, ⟨some 64, none, .un .not (.t 63)⟩])
 (.cond (.t 64) (.region [⟨some 65, none, .mov (.t 0)⟩, ⟨some 66, none, .fldA 0 1 false (.t 4)⟩, ⟨some 67, none, .load 1 false (.t 66)⟩, ⟨some 68, none, .fldA 1 1 false (.t 11)⟩, ⟨some 69, none, .load 1 false (.t 68)⟩, ⟨some 70, none, .call i_evolve_differ_add [.t 65, .c (.int .i64 3), .c (.int .i64 4), .t 67, .t 69]⟩])
    .skip)))))
 (.region [⟨some 71, none, .bin false .add (.t 52) (.c (.int .i64 1))⟩, ⟨some 52, none, .mov (.t 71)⟩]))))))))), []⟩
theorem T_evolve_differ_enums : trFn Tryd.prog [(3, [0, 0, 85, 0]), (12, [0, 0, 86, 0])] Tryd.f55 = some A_evolve_differ_enums := by kernel_rfl
theorem L_evolve_differ_enums : 3 ≤ Tryd.f55.ntmps := by decide

def A_evolve_differ_messages : AFn := ⟨(.seq (.region [⟨some 4, none, .boxI (.t 1)⟩, ⟨some 5, none, .boxI (.t 2)⟩])
 (.seq (.seq (.region [⟨some 16, none, .fldA 2 1 false (.t 4)⟩, ⟨some 17, none, .load 1 false (.t 16)⟩, ⟨some 18, none, .len false (.t 17)⟩, ⟨some 19, none, .mov (.c (.int .i64 0))⟩])
 (.block 0 (.loop (.seq (.region [⟨some 20, none, .bin false .lss (.t 19) (.t 18)⟩])
 (.seq (.cond (.t 20) .skip
 (.exit 0))
 (.seq (.block 1 (.seq (.region [⟨some 21, none, .idxA 7 (.t 17) (.t 19)⟩, ⟨some 22, none, .load 7 true (.t 21)⟩, ⟨some 7, none, .alloc 86 [.str ⟨#[]⟩, .int .i64 0, .int .i64 0, .int .i64 0, .int .i64 0, .int .i64 0, .int .i64 0]⟩, ⟨none, none, .store 7 (.t 7) (.t 22)⟩])
 (.seq (.region [⟨some 24, none, .load 6 true (.t 5)⟩, ⟨some 25, none, .fldA 1 1 false (.t 7)⟩, ⟨some 26, none, .load 1 false (.t 25)⟩, ⟨some 27, none, .call i_table_At [.t 24, .t 26]⟩, ⟨some 23, none, .mov (.t 27)⟩, ⟨some 28, none, .ext 0 (.t 23)⟩, ⟨some 29, none, .ext 1 (.t 23)⟩, ⟨some 8, none, .alloc 87 [.str ⟨#[]⟩, .int .i64 0, .int .i64 0, .int .i64 0, .int .i64 0, .int .i64 0, .int .i64 0]⟩, ⟨none, none, .store 7 (.t 8) (.t 28)⟩, ⟨some 9, none, .mov (.t 29)⟩])
 (.seq (.region [⟨some 30, none, .mov (.t 9)⟩])
 (.cond (.t 30) (.region [⟨some 31, none, .mov (.t 0)⟩, ⟨some 32, none, .load 6 true (.t 4)⟩, ⟨some 33, none, .load 6 true (.t 5)⟩, ⟨some 34, none, .load 7 true (.t 7)⟩, ⟨some 35, none, .load 7 true (.t 8)⟩, ⟨some 36, none, .call i_evolve_differ_field [.t 31, .t 32, .t 33, .t 34, .t 35]⟩])
 (.region [⟨some 37, none, .mov (.t 0)⟩, ⟨some 38, none, .fldA 0 1 false (.t 4)⟩, ⟨some 39, none, .load 1 false (.t 38)⟩, ⟨some 40, none, .fldA 1 1 false (.t 7)⟩, ⟨some 41, none, .load 1 false (.t 40)⟩, ⟨some 42, none, .call i_evolve_differ_add [.t 37, .c (.int .i64 4), .c (.int .i64 5), .t 39, .t 41]⟩]))))))
 (.region [⟨some 43, none, .bin false .add (.t 19) (.c (.int .i64 1))⟩, ⟨some 19, none, .mov (.t 43)⟩])))))))
 (.seq (.seq (.region [⟨some 44, none, .fldA 2 1 false (.t 5)⟩, ⟨some 45, none, .load 1 false (.t 44)⟩, ⟨some 46, none, .len false (.t 45)⟩, ⟨some 47, none, .mov (.c (.int .i64 0))⟩])
 (.block 2 (.loop (.seq (.region [⟨some 48, none, .bin false .lss (.t 47) (.t 46)⟩])
 (.seq (.cond (.t 48) .skip
 (.exit 2))
 (.seq (.block 3 (.seq (.region [⟨some 49, none, .idxA 7 (.t 45) (.t 47)⟩, ⟨some 50, none, .load 7 true (.t 49)⟩, ⟨some 11, none, .alloc 88 [.str ⟨#[]⟩, .int .i64 0, .int .i64 0, .int .i64 0, .int .i64 0, .int .i64 0, .int .i64 0]⟩, ⟨none, none, .store 7 (.t 11) (.t 50)⟩])
 (.seq (.region [⟨some 52, none, .load 6 true (.t 4)⟩, ⟨some 53, none, .fldA 1 1 false (.t 11)⟩, ⟨some 54, none, .load 1 false (.t 53)⟩, ⟨some 55, none, .call i_table_At [.t 52, .t 54]⟩, ⟨some 51, none, .mov (.t 55)⟩, ⟨some 56, none, .ext 0 (.t 51)⟩, ⟨some 57, none, .ext 1 (.t 51)⟩, ⟨some 12, none, .alloc 89 [.str ⟨#[]⟩, .int .i64 0, .int .i64 0, .int .i64 0, .int .i64 0, .int .i64 0, .int .i64 0]⟩, ⟨none, none, .store 7 (.t 12) (.t 56)⟩, ⟨some 13, none, .mov (.t 57)⟩])
 (.seq (.region [⟨some 58, none, .mov (.t 13)⟩, ⟨some 59, none, .un .not (.t 58)⟩])
 (.cond (.t 59) (.region [⟨some 60, none, .mov (.t 0)⟩, ⟨some 61, none, .fldA 0 1 false (.t 4)⟩, ⟨some 62, none, .load 1 false (.t 61)⟩, ⟨some 63, none, .fldA 1 1 false (.t 11)⟩, ⟨some 64, none, .load 1 false (.t 63)⟩, ⟨some 65, none, .call i_evolve_differ_add [.t 60, .c (.int .i64 2), .c (.int .i64 6), .t 62, .t 64]⟩])
    .skip)))))
 (.region [⟨some 66, none, .bin false .add (.t 47) (.c (.int .i64 1))⟩, ⟨some 47, none, .mov (.t 66)⟩])))))))
 (.seq (.draw [1000001, 1000004, 4000000, 4000086, 4000087, 4000088, 4000089] [⟨some 67, none, .fldA 5 1 false (.t 4)⟩, ⟨some 68, none, .load 1 false (.t 67)⟩, ⟨some 69, none, .call i_evolve_numbers [.t 68]⟩, ⟨some 70, none, .fldA 5 1 false (.t 5)⟩, ⟨some 71, none, .load 1 false (.t 70)⟩, ⟨some 72, none, .call i_evolve_numbers [.t 71]⟩, ⟨some 14, none, .mov (.t 69)⟩, ⟨some 15, none, .mov (.t 72)⟩])
 (.seq (.region [⟨some 73, none, .mov (.t 14)⟩, ⟨some 74, none, .mov (.t 15)⟩, ⟨some 75, none, .call i_slices_Equal_api_Range_api_Range [.t 73, .t 74]⟩, ⟨some 76, none, .un .not (.t 75)⟩])
 (.cond (.t 76) (.draw [7, 1000006, 2000007, 4000086, 4000087, 4000088, 4000089] [⟨some 77, none, .mov (.t 0)⟩, ⟨some 78, none, .mov (.t 14)⟩, ⟨some 79, none, .mov (.t 15)⟩, ⟨some 80, none, .call i_evolve_within [.t 78, .t 79]⟩, ⟨some 81, none, .call i_evolve_class [.t 80]⟩, ⟨some 82, none, .fldA 0 1 false (.t 4)⟩, ⟨some 83, none, .load 1 false (.t 82)⟩, ⟨some 84, none, .call i_evolve_differ_add [.t 77, .t 81, .c (.int .i64 10), .t 83, .c (.int .i64 0)]⟩])
    .skip)))))), []⟩
theorem T_evolve_differ_messages : trFn Tryd.prog [(3, [0, 0, 87, 0]), (4, [0, 0, 0, 0, 0, 0, 0, 88, 0, 0]), (11, [0, 0, 89, 0]), (12, [0, 0, 0, 0, 0, 0, 0, 90, 0, 0]), (1000016, [1000001, 1000004, 4000000, 4000086, 4000087, 4000088, 4000089]), (1000018, [7, 1000006, 2000007, 4000086, 4000087, 4000088, 4000089])] Tryd.f56 = some A_evolve_differ_messages := by kernel_rfl
theorem L_evolve_differ_messages : 3 ≤ Tryd.f56.ntmps := by decide

def A_cartouchelaw18_More : AFn := ⟨(.seq (.region [⟨some 0, none, .alloc 0 [.nil]⟩])
 (.seq (.region [⟨some 2, none, .call i_cartouchelaw7_Simple []⟩, ⟨some 1, none, .alloc 1 [.nil]⟩, ⟨none, none, .store 1 (.t 1) (.t 2)⟩])
 (.seq (.draw [9, 12, 1000001, 1000003, 1000004, 1000006, 1000007, 1000010, 2000012, 4000000, 4000001] [⟨some 3, none, .fldA 0 1 false (.t 1)⟩, ⟨some 4, none, .load 1 false (.t 3)⟩, ⟨some 5, none, .fldA 0 1 false (.t 1)⟩, ⟨some 6, none, .load 1 false (.t 5)⟩, ⟨some 7, none, .idxA 6 (.t 6) (.c (.int .i64 1))⟩, ⟨some 8, none, .fldA 2 1 false (.t 7)⟩, ⟨some 9, none, .load 1 false (.t 8)⟩, ⟨some 10, none, .build [.str ⟨#[]⟩, .int .i64 0, .int .i64 0, .int .i64 0, .int .i64 0, .int .i64 0, .int .i64 0] [(0, 1, .c (.str ⟨#[115]⟩)), (1, 1, .c (.int .i64 4)), (2, 1, .c (.int .i64 14))]⟩, ⟨some 11, none, .bslice 7 [.t 10]⟩, ⟨some 12, none, .app 2 33 7 64 (.t 9) (.t 11)⟩, ⟨some 13, none, .idxA 6 (.t 4) (.c (.int .i64 1))⟩, ⟨some 14, none, .fldA 2 1 false (.t 13)⟩, ⟨none, none, .store 1 (.t 14) (.t 12)⟩])
 (.seq (.region [⟨some 15, none, .load 1 true (.t 1)⟩, ⟨none, none, .store 1 (.t 0) (.t 15)⟩])
    .ret)))), [.cell 0 1 true]⟩
theorem T_cartouchelaw18_More : trFn Tryd.prog [(0, [1]), (1, [0, 2, 0]), (2, [0, 0, 0, 0, 0, 0, 0, 0, 0, 2, 0, 0, 0]), (1000002, [9, 12, 1000001, 1000003, 1000004, 1000006, 1000007, 1000010, 2000012, 4000000, 4000001])] Tryd.f57 = some A_cartouchelaw18_More := by kernel_rfl
theorem L_cartouchelaw18_More : 0 ≤ Tryd.f57.ntmps := by decide

def A_cartoucheref18_fresh : AFn := ⟨(.seq (.region [⟨some 2, none, .boxI (.t 0)⟩, ⟨some 3, none, .boxI (.t 1)⟩, ⟨some 4, none, .mov (.c (.nil))⟩])
 (.seq (.region [⟨some 5, none, .mov (.c (.nil))⟩])
 (.seq (.seq (.region [⟨some 6, none, .mov (.c (.int .i64 0))⟩])
 (.block 0 (.loop (.seq (.seq (.region [⟨some 9, none, .mov (.t 6)⟩, ⟨some 10, none, .fldA 2 1 false (.t 3)⟩, ⟨some 11, none, .load 1 false (.t 10)⟩, ⟨some 12, none, .len false (.t 11)⟩, ⟨some 13, none, .bin false .lss (.t 9) (.t 12)⟩])
 (.cond (.t 13) .skip
 (.exit 0)))
 (.seq (.block 1 (.seq (.region [⟨some 7, none, .mov (.c (.bool false))⟩])
 (.seq (.seq (.region [⟨some 8, none, .mov (.c (.int .i64 0))⟩])
 (.block 2 (.loop (.seq (.seq (.region [⟨some 16, none, .mov (.t 8)⟩, ⟨some 17, none, .fldA 2 1 false (.t 2)⟩, ⟨some 18, none, .load 1 false (.t 17)⟩, ⟨some 19, none, .len false (.t 18)⟩, ⟨some 20, none, .bin false .lss (.t 16) (.t 19)⟩])
 (.cond (.t 20) .skip
 (.exit 2)))
 (.seq (.block 3 (.draw [1000003, 1000005, 1000007, 1000009, 1000011, 1000013, 4000000] [⟨some 23, none, .mov (.t 7)⟩, ⟨some 24, none, .mov (.t 23)⟩, ⟨some 25, some (24, false), .fldA 2 1 false (.t 2)⟩, ⟨some 26, some (24, false), .load 1 false (.t 25)⟩, ⟨some 27, some (24, false), .mov (.t 8)⟩, ⟨some 28, some (24, false), .idxA 7 (.t 26) (.t 27)⟩, ⟨some 29, some (24, false), .fldA 1 1 false (.t 28)⟩, ⟨some 30, some (24, false), .load 1 false (.t 29)⟩, ⟨some 31, some (24, false), .fldA 2 1 false (.t 3)⟩, ⟨some 32, some (24, false), .load 1 false (.t 31)⟩, ⟨some 33, some (24, false), .mov (.t 6)⟩, ⟨some 34, some (24, false), .idxA 7 (.t 32) (.t 33)⟩, ⟨some 35, some (24, false), .fldA 1 1 false (.t 34)⟩, ⟨some 36, some (24, false), .load 1 false (.t 35)⟩, ⟨some 37, some (24, false), .bin false .eql (.t 30) (.t 36)⟩, ⟨some 38, none, .pickb (.t 24) (.c (.bool true)) (.t 37)⟩, ⟨some 7, none, .mov (.t 38)⟩]))
 (.region [⟨some 21, none, .mov (.t 8)⟩, ⟨some 22, none, .bin false .add (.t 21) (.c (.int .i64 1))⟩, ⟨some 8, none, .mov (.t 22)⟩]))))))
 (.seq (.region [⟨some 39, none, .mov (.t 7)⟩, ⟨some 40, none, .un .not (.t 39)⟩])
 (.cond (.t 40) (.region [⟨some 41, none, .mov (.t 5)⟩, ⟨some 42, none, .fldA 2 1 false (.t 3)⟩, ⟨some 43, none, .load 1 false (.t 42)⟩, ⟨some 44, none, .mov (.t 6)⟩, ⟨some 45, none, .idxA 7 (.t 43) (.t 44)⟩, ⟨some 46, none, .fldA 1 1 false (.t 45)⟩, ⟨some 47, none, .load 1 false (.t 46)⟩, ⟨some 48, none, .bslice 1 [.t 47]⟩, ⟨some 49, none, .app 0 3 1 8 (.t 41) (.t 48)⟩, ⟨some 5, none, .mov (.t 49)⟩])
    .skip)))))
 (.region [⟨some 14, none, .mov (.t 6)⟩, ⟨some 15, none, .bin false .add (.t 14) (.c (.int .i64 1))⟩, ⟨some 6, none, .mov (.t 15)⟩]))))))
 (.seq (.region [⟨some 50, none, .mov (.t 5)⟩, ⟨some 4, none, .mov (.t 50)⟩])
    .ret)))), [.tmp 4]⟩
theorem T_cartoucheref18_fresh : trFn Tryd.prog [(1000009, [1000003, 1000005, 1000007, 1000009, 1000011, 1000013, 4000000])] Tryd.f61 = some A_cartoucheref18_fresh := by kernel_rfl
theorem L_cartoucheref18_fresh : 2 ≤ Tryd.f61.ntmps := by decide

def A_evolve_differ_field : AFn := ⟨(.seq (.region [⟨some 5, none, .box 82 (.t 0)⟩, ⟨some 6, none, .boxI (.t 1)⟩, ⟨some 7, none, .boxI (.t 2)⟩, ⟨some 8, none, .boxI (.t 3)⟩, ⟨some 9, none, .boxI (.t 4)⟩])
 (.seq (.region [⟨some 11, none, .mkfn (.func 94) [] [.t 5, .t 6, .t 8]⟩, ⟨some 10, none, .mov (.t 11)⟩])
 (.seq (.seq (.region [⟨some 12, none, .fldA 0 1 false (.t 8)⟩, ⟨some 13, none, .load 1 false (.t 12)⟩, ⟨some 14, none, .fldA 0 1 false (.t 9)⟩, ⟨some 15, none, .load 1 false (.t 14)⟩, ⟨some 16, none, .bin false .neq (.t 13) (.t 15)⟩])
 (.cond (.t 16) (.region [⟨some 17, none, .mov (.t 10)⟩, ⟨some 18, none, .callv (.t 17) [.c (.int .i64 3), .c (.int .i64 7)]⟩])
    .skip))
 (.seq (.block 0 (.seq (.region [⟨some 20, none, .fldA 2 1 false (.t 8)⟩, ⟨some 21, none, .load 1 false (.t 20)⟩, ⟨some 22, none, .fldA 2 1 false (.t 9)⟩, ⟨some 23, none, .load 1 false (.t 22)⟩, ⟨some 24, none, .bin false .neq (.t 21) (.t 23)⟩, ⟨some 19, none, .mov (.t 24)⟩])
 (.cond (.t 19) (.region [⟨some 25, none, .mov (.t 10)⟩, ⟨some 26, none, .fldA 2 1 false (.t 8)⟩, ⟨some 27, none, .load 1 false (.t 26)⟩, ⟨some 28, none, .fldA 2 1 false (.t 9)⟩, ⟨some 29, none, .load 1 false (.t 28)⟩, ⟨some 30, none, .call i_evolve_Wider [.t 27, .t 29]⟩, ⟨some 31, none, .call i_evolve_class [.t 30]⟩, ⟨some 32, none, .callv (.t 25) [.t 31, .c (.int .i64 8)]⟩])
 (.seq (.draw [1000001, 1000005, 1000009, 1000013, 1000015, 1000016, 1000018, 1000019, 1000023, 1000025, 1000026, 1000028, 4000000, 4000082] [⟨some 34, none, .fldA 2 1 false (.t 8)⟩, ⟨some 35, none, .load 1 false (.t 34)⟩, ⟨some 36, none, .bin false .eql (.t 35) (.c (.int .i64 16))⟩, ⟨some 37, none, .mov (.t 36)⟩, ⟨some 38, some (37, false), .fldA 2 1 false (.t 8)⟩, ⟨some 39, some (37, false), .load 1 false (.t 38)⟩, ⟨some 40, some (37, false), .bin false .eql (.t 39) (.c (.int .i64 17))⟩, ⟨some 41, none, .pickb (.t 37) (.c (.bool true)) (.t 40)⟩, ⟨some 42, none, .mov (.t 41)⟩, ⟨some 43, some (42, true), .load 1 false (.t 5)⟩, ⟨some 44, some (42, true), .nilck (.t 43)⟩, ⟨some 45, some (42, true), .fldA 0 1 true (.t 44)⟩, ⟨some 46, some (42, true), .fldA 0 1 false (.t 45)⟩, ⟨some 47, some (42, true), .load 1 false (.t 46)⟩, ⟨some 48, some (42, true), .fldA 3 1 false (.t 8)⟩, ⟨some 49, some (42, true), .load 1 false (.t 48)⟩, ⟨some 50, some (42, true), .idxA 6 (.t 47) (.t 49)⟩, ⟨some 51, some (42, true), .fldA 0 1 false (.t 50)⟩, ⟨some 52, some (42, true), .load 1 false (.t 51)⟩, ⟨some 53, some (42, true), .load 1 false (.t 5)⟩, ⟨some 54, some (42, true), .nilck (.t 53)⟩, ⟨some 55, some (42, true), .fldA 1 1 true (.t 54)⟩, ⟨some 56, some (42, true), .fldA 0 1 false (.t 55)⟩, ⟨some 57, some (42, true), .load 1 false (.t 56)⟩, ⟨some 58, some (42, true), .fldA 3 1 false (.t 9)⟩, ⟨some 59, some (42, true), .load 1 false (.t 58)⟩, ⟨some 60, some (42, true), .idxA 6 (.t 57) (.t 59)⟩, ⟨some 61, some (42, true), .fldA 0 1 false (.t 60)⟩, ⟨some 62, some (42, true), .load 1 false (.t 61)⟩, ⟨some 63, some (42, true), .bin false .neq (.t 52) (.t 62)⟩, ⟨some 64, none, .pickb (.t 42) (.t 63) (.c (.bool false))⟩, ⟨some 33, none, .mov (.t 64)⟩])
 (.cond (.t 33) (.region [⟨some 65, none, .mov (.t 10)⟩, ⟨some 66, none, .callv (.t 65) [.c (.int .i64 4), .c (.int .i64 8)]⟩])
    .skip)))))
 (.block 1 (.seq (.region [⟨some 68, none, .fldA 4 1 false (.t 8)⟩, ⟨some 69, none, .load 1 false (.t 68)⟩, ⟨some 70, none, .fldA 4 1 false (.t 9)⟩, ⟨some 71, none, .load 1 false (.t 70)⟩, ⟨some 72, none, .bin false .neq (.t 69) (.t 71)⟩, ⟨some 67, none, .mov (.t 72)⟩])
 (.cond (.t 67) (.region [⟨some 73, none, .mov (.t 10)⟩, ⟨some 74, none, .load 7 true (.t 8)⟩, ⟨some 75, none, .load 7 true (.t 9)⟩, ⟨some 76, none, .call i_evolve_relabels [.t 74, .t 75]⟩, ⟨some 77, none, .call i_evolve_class [.t 76]⟩, ⟨some 78, none, .callv (.t 73) [.t 77, .c (.int .i64 9)]⟩])
 (.seq (.draw [1000001, 1000005, 1000007, 1000008, 1000009, 1000011, 1000013, 1000014, 1000015, 4000000, 4000082] [⟨some 80, none, .fldA 4 1 false (.t 8)⟩, ⟨some 81, none, .load 1 false (.t 80)⟩, ⟨some 82, none, .bin false .eql (.t 81) (.c (.int .i64 4))⟩, ⟨some 83, none, .mov (.t 82)⟩, ⟨some 84, some (83, true), .fldA 3 1 false (.t 6)⟩, ⟨some 85, some (83, true), .load 1 false (.t 84)⟩, ⟨some 86, some (83, true), .fldA 5 1 false (.t 8)⟩, ⟨some 87, some (83, true), .load 1 false (.t 86)⟩, ⟨some 88, some (83, true), .idxA 1 (.t 85) (.t 87)⟩, ⟨some 89, some (83, true), .load 1 false (.t 88)⟩, ⟨some 90, some (83, true), .fldA 3 1 false (.t 7)⟩, ⟨some 91, some (83, true), .load 1 false (.t 90)⟩, ⟨some 92, some (83, true), .fldA 5 1 false (.t 9)⟩, ⟨some 93, some (83, true), .load 1 false (.t 92)⟩, ⟨some 94, some (83, true), .idxA 1 (.t 91) (.t 93)⟩, ⟨some 95, some (83, true), .load 1 false (.t 94)⟩, ⟨some 96, some (83, true), .bin false .neq (.t 89) (.t 95)⟩, ⟨some 97, none, .pickb (.t 83) (.t 96) (.c (.bool false))⟩, ⟨some 79, none, .mov (.t 97)⟩])
 (.cond (.t 79) (.region [⟨some 98, none, .mov (.t 10)⟩, ⟨some 99, none, .callv (.t 98) [.c (.int .i64 4), .c (.int .i64 9)]⟩])
 (.seq (.region [⟨some 101, none, .fldA 4 1 false (.t 8)⟩, ⟨some 102, none, .load 1 false (.t 101)⟩, ⟨some 103, none, .bin false .eql (.t 102) (.c (.int .i64 5))⟩, ⟨some 104, none, .mov (.t 103)⟩, ⟨some 105, some (104, true), .fldA 6 1 false (.t 8)⟩, ⟨some 106, some (104, true), .load 1 false (.t 105)⟩, ⟨some 107, some (104, true), .fldA 6 1 false (.t 9)⟩, ⟨some 108, some (104, true), .load 1 false (.t 107)⟩, ⟨some 109, some (104, true), .bin false .neq (.t 106) (.t 108)⟩, ⟨some 110, none, .pickb (.t 104) (.t 109) (.c (.bool false))⟩, ⟨some 100, none, .mov (.t 110)⟩])
 (.cond (.t 100) (.region [⟨some 111, none, .mov (.t 10)⟩, ⟨some 112, none, .callv (.t 111) [.c (.int .i64 4), .c (.int .i64 8)]⟩])
    .skip))))))))))), []⟩
theorem T_evolve_differ_field : trFn Tryd.prog [(0, [83, 0, 0, 0, 0]), (1000006, [1000001, 1000005, 1000009, 1000013, 1000015, 1000016, 1000018, 1000019, 1000023, 1000025, 1000026, 1000028, 4000000, 4000082]), (1000010, [1000001, 1000005, 1000007, 1000008, 1000009, 1000011, 1000013, 1000014, 1000015, 4000000, 4000082])] Tryd.f74 = some A_evolve_differ_field := by kernel_rfl
theorem L_evolve_differ_field : 5 ≤ Tryd.f74.ntmps := by decide

def A_evolve_numbers : AFn := ⟨(.seq (.region [⟨some 2, none, .mov (.c (.nil))⟩])
 (.seq (.region [⟨some 3, none, .mov (.c (.nil))⟩])
 (.seq (.seq (.region [⟨some 7, none, .mov (.t 0)⟩, ⟨some 8, none, .len false (.t 7)⟩, ⟨some 9, none, .mov (.c (.int .i64 0))⟩])
 (.block 0 (.loop (.seq (.region [⟨some 10, none, .bin false .lss (.t 9) (.t 8)⟩])
 (.seq (.cond (.t 10) .skip
 (.exit 0))
 (.seq (.block 1 (.seq (.region [⟨some 11, none, .idxA 2 (.t 7) (.t 9)⟩, ⟨some 12, none, .load 2 true (.t 11)⟩, ⟨some 5, none, .alloc 0 [.int .i64 0, .int .i64 0]⟩, ⟨none, none, .store 2 (.t 5) (.t 12)⟩])
 (.seq (.region [⟨some 13, none, .mov (.t 3)⟩, ⟨some 14, none, .len false (.t 13)⟩, ⟨some 6, none, .mov (.t 14)⟩])
 (.seq (.draw [1000006, 1000008, 1000011, 4000000, 4000001] [⟨some 15, none, .mov (.t 6)⟩, ⟨some 16, none, .bin false .gtr (.t 15) (.c (.int .i64 0))⟩, ⟨some 17, none, .mov (.t 16)⟩, ⟨some 18, some (17, true), .mov (.t 3)⟩, ⟨some 19, some (17, true), .mov (.t 6)⟩, ⟨some 20, some (17, true), .bin false .sub (.t 19) (.c (.int .i64 1))⟩, ⟨some 21, some (17, true), .idxA 2 (.t 18) (.t 20)⟩, ⟨some 22, some (17, true), .fldA 1 1 false (.t 21)⟩, ⟨some 23, some (17, true), .load 1 false (.t 22)⟩, ⟨some 24, some (17, true), .bin false .add (.t 23) (.c (.int .i64 1))⟩, ⟨some 25, some (17, true), .fldA 0 1 false (.t 5)⟩, ⟨some 26, some (17, true), .load 1 false (.t 25)⟩, ⟨some 27, some (17, true), .bin false .eql (.t 24) (.t 26)⟩, ⟨some 28, none, .pickb (.t 17) (.t 27) (.c (.bool false))⟩])
 (.cond (.t 28) (.region [⟨some 29, none, .mov (.t 3)⟩, ⟨some 30, none, .mov (.t 6)⟩, ⟨some 31, none, .bin false .sub (.t 30) (.c (.int .i64 1))⟩, ⟨some 32, none, .fldA 1 1 false (.t 5)⟩, ⟨some 33, none, .load 1 false (.t 32)⟩, ⟨some 34, none, .idxA 2 (.t 29) (.t 31)⟩, ⟨some 35, none, .fldA 1 1 false (.t 34)⟩, ⟨none, none, .store 1 (.t 35) (.t 33)⟩])
 (.region [⟨some 36, none, .mov (.t 3)⟩, ⟨some 37, none, .load 2 true (.t 5)⟩, ⟨some 38, none, .bslice 2 [.t 37]⟩, ⟨some 39, none, .app 1 110 2 16 (.t 36) (.t 38)⟩, ⟨some 3, none, .mov (.t 39)⟩]))))))
 (.region [⟨some 40, none, .bin false .add (.t 9) (.c (.int .i64 1))⟩, ⟨some 9, none, .mov (.t 40)⟩])))))))
 (.seq (.region [⟨some 41, none, .mov (.t 3)⟩, ⟨some 2, none, .mov (.t 41)⟩])
    .ret)))), [.tmp 2]⟩
theorem T_evolve_numbers : trFn Tryd.prog [(4, [0, 0, 1, 0]), (8, [0, 0, 0, 1, 0]), (1000006, [1000006, 1000008, 1000011, 4000000, 4000001])] Tryd.f75 = some A_evolve_numbers := by kernel_rfl
theorem L_evolve_numbers : 1 ≤ Tryd.f75.ntmps := by decide

def A_slices_Equal_api_Range_api_Range : AFn := ⟨(.seq (.region [⟨some 4, none, .mov (.c (.bool false))⟩])
 (.seq (.seq (.region [⟨some 6, none, .mov (.t 0)⟩, ⟨some 7, none, .len false (.t 6)⟩, ⟨some 8, none, .mov (.t 1)⟩, ⟨some 9, none, .len false (.t 8)⟩, ⟨some 10, none, .bin false .neq (.t 7) (.t 9)⟩])
 (.cond (.t 10) (.seq (.region [⟨some 4, none, .mov (.c (.bool false))⟩])
    .ret)
    .skip))
 (.seq (.seq (.region [⟨some 11, none, .mov (.t 0)⟩, ⟨some 12, none, .len false (.t 11)⟩, ⟨some 13, none, .mov (.c (.int .i64 0))⟩])
 (.block 0 (.loop (.seq (.region [⟨some 14, none, .bin false .lss (.t 13) (.t 12)⟩])
 (.seq (.cond (.t 14) .skip
 (.exit 0))
 (.seq (.block 1 (.seq (.region [⟨some 15, none, .mov (.t 13)⟩, ⟨some 5, none, .mov (.t 15)⟩])
 (.seq (.draw [1000002, 1000003, 1000006, 1000007] [⟨some 16, none, .mov (.t 0)⟩, ⟨some 17, none, .mov (.t 5)⟩, ⟨some 18, none, .idxA 2 (.t 16) (.t 17)⟩, ⟨some 19, none, .load 2 true (.t 18)⟩, ⟨some 20, none, .mov (.t 1)⟩, ⟨some 21, none, .mov (.t 5)⟩, ⟨some 22, none, .idxA 2 (.t 20) (.t 21)⟩, ⟨some 23, none, .load 2 true (.t 22)⟩, ⟨some 24, none, .eqs [.int, .int] true (.t 19) (.t 23)⟩])
 (.cond (.t 24) (.seq (.region [⟨some 4, none, .mov (.c (.bool false))⟩])
    .ret)
    .skip))))
 (.region [⟨some 25, none, .bin false .add (.t 13) (.c (.int .i64 1))⟩, ⟨some 13, none, .mov (.t 25)⟩])))))))
 (.seq (.region [⟨some 4, none, .mov (.c (.bool true))⟩])
    .ret)))), [.tmp 4]⟩
theorem T_slices_Equal_api_Range_api_Range : trFn Tryd.prog [(1000006, [1000002, 1000003, 1000006, 1000007])] Tryd.f76 = some A_slices_Equal_api_Range_api_Range := by kernel_rfl
theorem L_slices_Equal_api_Range_api_Range : 2 ≤ Tryd.f76.ntmps := by decide

def A_evolve_class : AFn := ⟨(.seq (.region [⟨some 2, none, .mov (.c (.int .i64 0))⟩])
 (.seq (.seq (.region [⟨some 3, none, .mov (.t 0)⟩])
 (.cond (.t 3) (.seq (.region [⟨some 2, none, .mov (.c (.int .i64 3))⟩])
    .ret)
    .skip))
 (.seq (.region [⟨some 2, none, .mov (.c (.int .i64 4))⟩])
    .ret))), [.tmp 2]⟩
theorem T_evolve_class : trFn Tryd.prog [] Tryd.f77 = some A_evolve_class := by kernel_rfl
theorem L_evolve_class : 1 ≤ Tryd.f77.ntmps := by decide

def A_evolve_within : AFn := ⟨(.seq (.region [⟨some 4, none, .mov (.c (.bool false))⟩])
 (.seq (.seq (.region [⟨some 7, none, .mov (.t 0)⟩, ⟨some 8, none, .len false (.t 7)⟩, ⟨some 9, none, .mov (.c (.int .i64 0))⟩])
 (.block 0 (.loop (.seq (.region [⟨some 10, none, .bin false .lss (.t 9) (.t 8)⟩])
 (.seq (.cond (.t 10) .skip
 (.exit 0))
 (.seq (.block 1 (.seq (.region [⟨some 11, none, .idxA 2 (.t 7) (.t 9)⟩, ⟨some 12, none, .load 2 true (.t 11)⟩, ⟨some 6, none, .alloc 0 [.int .i64 0, .int .i64 0]⟩, ⟨none, none, .store 2 (.t 6) (.t 12)⟩])
 (.seq (.region [⟨some 13, none, .mov (.t 1)⟩, ⟨some 14, none, .mkfn (.func 97) [] [.t 6]⟩, ⟨some 15, none, .call i_slices_ContainsFunc_api_Range_api_Range [.t 13, .t 14]⟩, ⟨some 16, none, .un .not (.t 15)⟩])
 (.cond (.t 16) (.seq (.region [⟨some 4, none, .mov (.c (.bool false))⟩])
    .ret)
    .skip))))
 (.region [⟨some 17, none, .bin false .add (.t 9) (.c (.int .i64 1))⟩, ⟨some 9, none, .mov (.t 17)⟩])))))))
 (.seq (.region [⟨some 4, none, .mov (.c (.bool true))⟩])
    .ret))), [.tmp 4]⟩
theorem T_evolve_within : trFn Tryd.prog [(3, [0, 0, 1, 0])] Tryd.f78 = some A_evolve_within := by kernel_rfl
theorem L_evolve_within : 2 ≤ Tryd.f78.ntmps := by decide

def A_cartoucheref18_field : AFn := ⟨(.seq (.region [⟨some 8, none, .boxI (.t 1)⟩, ⟨some 9, none, .boxI (.t 2)⟩, ⟨some 10, none, .boxI (.t 3)⟩, ⟨some 11, none, .boxI (.t 4)⟩, ⟨some 12, none, .boxI (.t 5)⟩, ⟨some 13, none, .boxI (.t 6)⟩, ⟨some 14, none, .mov (.c (.nil))⟩])
 (.seq (.seq (.region [⟨some 17, none, .fldA 0 1 false (.t 12)⟩, ⟨some 18, none, .load 1 false (.t 17)⟩, ⟨some 19, none, .fldA 0 1 false (.t 13)⟩, ⟨some 20, none, .load 1 false (.t 19)⟩, ⟨some 21, none, .bin false .neq (.t 18) (.t 20)⟩])
 (.cond (.t 21) (.region [⟨some 22, none, .mov (.t 0)⟩, ⟨some 23, none, .fldA 0 1 false (.t 10)⟩, ⟨some 24, none, .load 1 false (.t 23)⟩, ⟨some 25, none, .fldA 1 1 false (.t 12)⟩, ⟨some 26, none, .load 1 false (.t 25)⟩, ⟨some 27, none, .build [.int .i64 0, .int .i64 0, .str ⟨#[]⟩, .int .i64 0] [(0, 1, .c (.int .i64 3)), (1, 1, .c (.int .i64 7)), (2, 1, .t 24), (3, 1, .t 26)]⟩, ⟨some 28, none, .bslice 4 [.t 27]⟩, ⟨some 29, none, .app 68 101 4 40 (.t 22) (.t 28)⟩, ⟨some 0, none, .mov (.t 29)⟩])
    .skip))
 (.seq (.seq (.region [⟨some 30, none, .fldA 2 1 false (.t 12)⟩, ⟨some 31, none, .load 1 false (.t 30)⟩, ⟨some 32, none, .fldA 2 1 false (.t 13)⟩, ⟨some 33, none, .load 1 false (.t 32)⟩, ⟨some 34, none, .bin false .neq (.t 31) (.t 33)⟩])
 (.cond (.t 34) (.seq (.region [⟨some 15, none, .mov (.c (.int .i64 4))⟩])
 (.seq (.seq (.region [⟨some 35, none, .fldA 2 1 false (.t 12)⟩, ⟨some 36, none, .load 1 false (.t 35)⟩, ⟨some 37, none, .fldA 2 1 false (.t 13)⟩, ⟨some 38, none, .load 1 false (.t 37)⟩, ⟨some 39, none, .call i_cartoucheref18_Wider [.t 36, .t 38]⟩])
 (.cond (.t 39) (.region [⟨some 15, none, .mov (.c (.int .i64 3))⟩])
    .skip))
 (.region [⟨some 40, none, .mov (.t 0)⟩, ⟨some 41, none, .mov (.t 15)⟩, ⟨some 42, none, .fldA 0 1 false (.t 10)⟩, ⟨some 43, none, .load 1 false (.t 42)⟩, ⟨some 44, none, .fldA 1 1 false (.t 12)⟩, ⟨some 45, none, .load 1 false (.t 44)⟩, ⟨some 46, none, .build [.int .i64 0, .int .i64 0, .str ⟨#[]⟩, .int .i64 0] [(0, 1, .t 41), (1, 1, .c (.int .i64 8)), (2, 1, .t 43), (3, 1, .t 45)]⟩, ⟨some 47, none, .bslice 4 [.t 46]⟩, ⟨some 48, none, .app 68 101 4 40 (.t 40) (.t 47)⟩, ⟨some 0, none, .mov (.t 48)⟩])))
 (.seq (.draw [1000001, 1000005, 1000007, 1000008, 1000010, 1000012, 1000014, 1000015, 1000017, 4000000, 4000068] [⟨some 49, none, .fldA 2 1 false (.t 12)⟩, ⟨some 50, none, .load 1 false (.t 49)⟩, ⟨some 51, none, .bin false .geq (.t 50) (.c (.int .i64 16))⟩, ⟨some 52, none, .mov (.t 51)⟩, ⟨some 53, some (52, true), .fldA 0 1 false (.t 8)⟩, ⟨some 54, some (52, true), .load 1 false (.t 53)⟩, ⟨some 55, some (52, true), .fldA 3 1 false (.t 12)⟩, ⟨some 56, some (52, true), .load 1 false (.t 55)⟩, ⟨some 57, some (52, true), .idxA 6 (.t 54) (.t 56)⟩, ⟨some 58, some (52, true), .fldA 0 1 false (.t 57)⟩, ⟨some 59, some (52, true), .load 1 false (.t 58)⟩, ⟨some 60, some (52, true), .fldA 0 1 false (.t 9)⟩, ⟨some 61, some (52, true), .load 1 false (.t 60)⟩, ⟨some 62, some (52, true), .fldA 3 1 false (.t 13)⟩, ⟨some 63, some (52, true), .load 1 false (.t 62)⟩, ⟨some 64, some (52, true), .idxA 6 (.t 61) (.t 63)⟩, ⟨some 65, some (52, true), .fldA 0 1 false (.t 64)⟩, ⟨some 66, some (52, true), .load 1 false (.t 65)⟩, ⟨some 67, some (52, true), .bin false .neq (.t 59) (.t 66)⟩, ⟨some 68, none, .pickb (.t 52) (.t 67) (.c (.bool false))⟩])
 (.cond (.t 68) (.region [⟨some 69, none, .mov (.t 0)⟩, ⟨some 70, none, .fldA 0 1 false (.t 10)⟩, ⟨some 71, none, .load 1 false (.t 70)⟩, ⟨some 72, none, .fldA 1 1 false (.t 12)⟩, ⟨some 73, none, .load 1 false (.t 72)⟩, ⟨some 74, none, .build [.int .i64 0, .int .i64 0, .str ⟨#[]⟩, .int .i64 0] [(0, 1, .c (.int .i64 4)), (1, 1, .c (.int .i64 8)), (2, 1, .t 71), (3, 1, .t 73)]⟩, ⟨some 75, none, .bslice 4 [.t 74]⟩, ⟨some 76, none, .app 68 101 4 40 (.t 69) (.t 75)⟩, ⟨some 0, none, .mov (.t 76)⟩])
    .skip))))
 (.seq (.seq (.region [⟨some 77, none, .fldA 4 1 false (.t 12)⟩, ⟨some 78, none, .load 1 false (.t 77)⟩, ⟨some 79, none, .fldA 4 1 false (.t 13)⟩, ⟨some 80, none, .load 1 false (.t 79)⟩, ⟨some 81, none, .bin false .neq (.t 78) (.t 80)⟩])
 (.cond (.t 81) (.seq (.region [⟨some 16, none, .mov (.c (.int .i64 4))⟩])
 (.seq (.seq (.region [⟨some 82, none, .load 7 true (.t 12)⟩, ⟨some 83, none, .load 7 true (.t 13)⟩, ⟨some 84, none, .call i_cartoucheref18_labels [.t 82, .t 83]⟩])
 (.cond (.t 84) (.region [⟨some 16, none, .mov (.c (.int .i64 3))⟩])
    .skip))
 (.region [⟨some 85, none, .mov (.t 0)⟩, ⟨some 86, none, .mov (.t 16)⟩, ⟨some 87, none, .fldA 0 1 false (.t 10)⟩, ⟨some 88, none, .load 1 false (.t 87)⟩, ⟨some 89, none, .fldA 1 1 false (.t 12)⟩, ⟨some 90, none, .load 1 false (.t 89)⟩, ⟨some 91, none, .build [.int .i64 0, .int .i64 0, .str ⟨#[]⟩, .int .i64 0] [(0, 1, .t 86), (1, 1, .c (.int .i64 9)), (2, 1, .t 88), (3, 1, .t 90)]⟩, ⟨some 92, none, .bslice 4 [.t 91]⟩, ⟨some 93, none, .app 68 101 4 40 (.t 85) (.t 92)⟩, ⟨some 0, none, .mov (.t 93)⟩])))
 (.seq (.draw [1000001, 1000005, 1000007, 1000008, 1000009, 1000011, 1000013, 1000014, 1000015, 4000000, 4000068] [⟨some 94, none, .fldA 4 1 false (.t 12)⟩, ⟨some 95, none, .load 1 false (.t 94)⟩, ⟨some 96, none, .bin false .eql (.t 95) (.c (.int .i64 4))⟩, ⟨some 97, none, .mov (.t 96)⟩, ⟨some 98, some (97, true), .fldA 3 1 false (.t 10)⟩, ⟨some 99, some (97, true), .load 1 false (.t 98)⟩, ⟨some 100, some (97, true), .fldA 5 1 false (.t 12)⟩, ⟨some 101, some (97, true), .load 1 false (.t 100)⟩, ⟨some 102, some (97, true), .idxA 1 (.t 99) (.t 101)⟩, ⟨some 103, some (97, true), .load 1 false (.t 102)⟩, ⟨some 104, some (97, true), .fldA 3 1 false (.t 11)⟩, ⟨some 105, some (97, true), .load 1 false (.t 104)⟩, ⟨some 106, some (97, true), .fldA 5 1 false (.t 13)⟩, ⟨some 107, some (97, true), .load 1 false (.t 106)⟩, ⟨some 108, some (97, true), .idxA 1 (.t 105) (.t 107)⟩, ⟨some 109, some (97, true), .load 1 false (.t 108)⟩, ⟨some 110, some (97, true), .bin false .neq (.t 103) (.t 109)⟩, ⟨some 111, none, .pickb (.t 97) (.t 110) (.c (.bool false))⟩])
 (.cond (.t 111) (.region [⟨some 112, none, .mov (.t 0)⟩, ⟨some 113, none, .fldA 0 1 false (.t 10)⟩, ⟨some 114, none, .load 1 false (.t 113)⟩, ⟨some 115, none, .fldA 1 1 false (.t 12)⟩, ⟨some 116, none, .load 1 false (.t 115)⟩, ⟨some 117, none, .build [.int .i64 0, .int .i64 0, .str ⟨#[]⟩, .int .i64 0] [(0, 1, .c (.int .i64 4)), (1, 1, .c (.int .i64 9)), (2, 1, .t 114), (3, 1, .t 116)]⟩, ⟨some 118, none, .bslice 4 [.t 117]⟩, ⟨some 119, none, .app 68 101 4 40 (.t 112) (.t 118)⟩, ⟨some 0, none, .mov (.t 119)⟩])
    .skip))))
 (.seq (.seq (.region [⟨some 120, none, .fldA 4 1 false (.t 12)⟩, ⟨some 121, none, .load 1 false (.t 120)⟩, ⟨some 122, none, .bin false .eql (.t 121) (.c (.int .i64 5))⟩, ⟨some 123, none, .mov (.t 122)⟩, ⟨some 124, some (123, true), .fldA 4 1 false (.t 13)⟩, ⟨some 125, some (123, true), .load 1 false (.t 124)⟩, ⟨some 126, some (123, true), .bin false .eql (.t 125) (.c (.int .i64 5))⟩, ⟨some 127, none, .pickb (.t 123) (.t 126) (.c (.bool false))⟩, ⟨some 128, none, .mov (.t 127)⟩, ⟨some 129, some (128, true), .fldA 6 1 false (.t 12)⟩, ⟨some 130, some (128, true), .load 1 false (.t 129)⟩, ⟨some 131, some (128, true), .fldA 6 1 false (.t 13)⟩, ⟨some 132, some (128, true), .load 1 false (.t 131)⟩, ⟨some 133, some (128, true), .bin false .neq (.t 130) (.t 132)⟩, ⟨some 134, none, .pickb (.t 128) (.t 133) (.c (.bool false))⟩])
 (.cond (.t 134) (.region [⟨some 135, none, .mov (.t 0)⟩, ⟨some 136, none, .fldA 0 1 false (.t 10)⟩, ⟨some 137, none, .load 1 false (.t 136)⟩, ⟨some 138, none, .fldA 1 1 false (.t 12)⟩, ⟨some 139, none, .load 1 false (.t 138)⟩, ⟨some 140, none, .build [.int .i64 0, .int .i64 0, .str ⟨#[]⟩, .int .i64 0] [(0, 1, .c (.int .i64 4)), (1, 1, .c (.int .i64 8)), (2, 1, .t 137), (3, 1, .t 139)]⟩, ⟨some 141, none, .bslice 4 [.t 140]⟩, ⟨some 142, none, .app 68 101 4 40 (.t 135) (.t 141)⟩, ⟨some 0, none, .mov (.t 142)⟩])
    .skip))
 (.seq (.region [⟨some 143, none, .mov (.t 0)⟩, ⟨some 14, none, .mov (.t 143)⟩])
    .ret)))))), [.tmp 14]⟩
theorem T_cartoucheref18_field : trFn Tryd.prog [(2, [0, 0, 0, 0, 0, 0, 0, 68, 0]), (7, [0, 0, 0, 0, 0, 0, 0, 0, 68, 0]), (9, [0, 0, 0, 0, 0, 0, 0, 68, 0]), (14, [0, 0, 0, 0, 0, 0, 0, 0, 68, 0]), (16, [0, 0, 0, 0, 0, 0, 0, 68, 0]), (18, [0, 0, 0, 0, 0, 0, 0, 68, 0]), (1000008, [1000001, 1000005, 1000007, 1000008, 1000010, 1000012, 1000014, 1000015, 1000017, 4000000, 4000068]), (1000015, [1000001, 1000005, 1000007, 1000008, 1000009, 1000011, 1000013, 1000014, 1000015, 4000000, 4000068])] Tryd.f79 = some A_cartoucheref18_field := by kernel_rfl
theorem L_cartoucheref18_field : 7 ≤ Tryd.f79.ntmps := by decide

def A_cartoucheref18_within : AFn := ⟨(.seq (.region [⟨some 4, none, .mov (.c (.bool false))⟩])
 (.seq (.seq (.region [⟨some 5, none, .mov (.c (.int .i64 0))⟩])
 (.block 0 (.loop (.seq (.seq (.region [⟨some 8, none, .mov (.t 5)⟩, ⟨some 9, none, .mov (.t 0)⟩, ⟨some 10, none, .len false (.t 9)⟩, ⟨some 11, none, .bin false .lss (.t 8) (.t 10)⟩])
 (.cond (.t 11) .skip
 (.exit 0)))
 (.seq (.block 1 (.seq (.region [⟨some 14, none, .mov (.t 0)⟩, ⟨some 15, none, .mov (.t 5)⟩, ⟨some 16, none, .idxA 2 (.t 14) (.t 15)⟩, ⟨some 17, none, .fldA 0 1 false (.t 16)⟩, ⟨some 18, none, .load 1 false (.t 17)⟩, ⟨some 6, none, .mov (.t 18)⟩])
 (.seq (.seq (.region [⟨some 7, none, .mov (.c (.int .i64 0))⟩])
 (.block 2 (.loop (.seq (.seq (.region [⟨some 19, none, .mov (.t 7)⟩, ⟨some 20, none, .mov (.t 1)⟩, ⟨some 21, none, .len false (.t 20)⟩, ⟨some 22, none, .bin false .lss (.t 19) (.t 21)⟩])
 (.cond (.t 22) .skip
 (.exit 2)))
 (.seq (.block 3 (.seq (.region [⟨some 25, none, .mov (.t 1)⟩, ⟨some 26, none, .mov (.t 7)⟩, ⟨some 27, none, .idxA 2 (.t 25) (.t 26)⟩, ⟨some 28, none, .fldA 0 1 false (.t 27)⟩, ⟨some 29, none, .load 1 false (.t 28)⟩, ⟨some 30, none, .mov (.t 6)⟩, ⟨some 31, none, .bin false .leq (.t 29) (.t 30)⟩, ⟨some 32, none, .mov (.t 31)⟩, ⟨some 33, some (32, true), .mov (.t 1)⟩, ⟨some 34, some (32, true), .mov (.t 7)⟩, ⟨some 35, some (32, true), .idxA 2 (.t 33) (.t 34)⟩, ⟨some 36, some (32, true), .fldA 1 1 false (.t 35)⟩, ⟨some 37, some (32, true), .load 1 false (.t 36)⟩, ⟨some 38, some (32, true), .mov (.t 6)⟩, ⟨some 39, some (32, true), .bin false .geq (.t 37) (.t 38)⟩, ⟨some 40, none, .pickb (.t 32) (.t 39) (.c (.bool false))⟩])
 (.cond (.t 40) (.region [⟨some 41, none, .mov (.t 1)⟩, ⟨some 42, none, .mov (.t 7)⟩, ⟨some 43, none, .idxA 2 (.t 41) (.t 42)⟩, ⟨some 44, none, .fldA 1 1 false (.t 43)⟩, ⟨some 45, none, .load 1 false (.t 44)⟩, ⟨some 46, none, .bin false .add (.t 45) (.c (.int .i64 1))⟩, ⟨some 6, none, .mov (.t 46)⟩])
    .skip)))
 (.region [⟨some 23, none, .mov (.t 7)⟩, ⟨some 24, none, .bin false .add (.t 23) (.c (.int .i64 1))⟩, ⟨some 7, none, .mov (.t 24)⟩]))))))
 (.seq (.region [⟨some 47, none, .mov (.t 6)⟩, ⟨some 48, none, .mov (.t 0)⟩, ⟨some 49, none, .mov (.t 5)⟩, ⟨some 50, none, .idxA 2 (.t 48) (.t 49)⟩, ⟨some 51, none, .fldA 1 1 false (.t 50)⟩, ⟨some 52, none, .load 1 false (.t 51)⟩, ⟨some 53, none, .bin false .leq (.t 47) (.t 52)⟩])
 (.cond (.t 53) (.seq (.region [⟨some 4, none, .mov (.c (.bool false))⟩])
    .ret)
    .skip)))))
 (.region [⟨some 12, none, .mov (.t 5)⟩, ⟨some 13, none, .bin false .add (.t 12) (.c (.int .i64 1))⟩, ⟨some 5, none, .mov (.t 13)⟩]))))))
 (.seq (.region [⟨some 4, none, .mov (.c (.bool true))⟩])
    .ret))), [.tmp 4]⟩
theorem T_cartoucheref18_within : trFn Tryd.prog [] Tryd.f80 = some A_cartoucheref18_within := by kernel_rfl
theorem L_cartoucheref18_within : 2 ≤ Tryd.f80.ntmps := by decide

def A_evolve_differ_field_1 : AFn := ⟨(.region [⟨some 7, none, .load 1 false (.t 2)⟩, ⟨some 8, none, .mov (.t 0)⟩, ⟨some 9, none, .mov (.t 1)⟩, ⟨some 10, none, .fldA 0 1 false (.t 3)⟩, ⟨some 11, none, .load 1 false (.t 10)⟩, ⟨some 12, none, .fldA 1 1 false (.t 4)⟩, ⟨some 13, none, .load 1 false (.t 12)⟩, ⟨some 14, none, .call i_evolve_differ_add [.t 7, .t 8, .t 9, .t 11, .t 13]⟩]), []⟩
theorem T_evolve_differ_field_1 : trFn Tryd.prog [] Tryd.f94 = some A_evolve_differ_field_1 := by kernel_rfl
theorem L_evolve_differ_field_1 : 5 ≤ Tryd.f94.ntmps := by decide

def A_evolve_relabels : AFn := ⟨(.seq (.region [⟨some 2, none, .boxI (.t 0)⟩, ⟨some 3, none, .boxI (.t 1)⟩, ⟨some 4, none, .mov (.c (.bool false))⟩])
 (.seq (.region [⟨some 6, none, .mkfn (.func 105) [] [.t 2, .t 3]⟩, ⟨some 5, none, .mov (.t 6)⟩])
 (.seq (.region [⟨some 7, none, .mov (.t 5)⟩, ⟨some 8, none, .callv (.t 7) [.c (.int .i64 0), .c (.int .i64 1)]⟩, ⟨some 9, none, .mov (.t 8)⟩, ⟨some 10, some (9, true), .fldA 2 1 false (.t 2)⟩, ⟨some 11, some (9, true), .load 1 false (.t 10)⟩, ⟨some 12, some (9, true), .bin false .neq (.t 11) (.c (.int .i64 17))⟩, ⟨some 13, none, .pickb (.t 9) (.t 12) (.c (.bool false))⟩, ⟨some 14, none, .mov (.t 13)⟩, ⟨some 15, some (14, true), .fldA 2 1 false (.t 3)⟩, ⟨some 16, some (14, true), .load 1 false (.t 15)⟩, ⟨some 17, some (14, true), .bin false .neq (.t 16) (.c (.int .i64 17))⟩, ⟨some 18, none, .pickb (.t 14) (.t 17) (.c (.bool false))⟩, ⟨some 19, none, .mov (.t 18)⟩, ⟨some 20, some (19, false), .mov (.t 5)⟩, ⟨some 21, some (19, false), .callv (.t 20) [.c (.int .i64 2), .c (.int .i64 3)]⟩, ⟨some 22, none, .pickb (.t 19) (.c (.bool true)) (.t 21)⟩, ⟨some 4, none, .mov (.t 22)⟩])
    .ret))), [.tmp 4]⟩
theorem T_evolve_relabels : trFn Tryd.prog [] Tryd.f95 = some A_evolve_relabels := by kernel_rfl
theorem L_evolve_relabels : 2 ≤ Tryd.f95.ntmps := by decide

def A_slices_ContainsFunc_api_Range_api_Range : AFn := ⟨(.seq (.region [⟨some 4, none, .mov (.c (.bool false))⟩])
 (.seq (.region [⟨some 5, none, .mov (.t 0)⟩, ⟨some 6, none, .mov (.t 1)⟩, ⟨some 7, none, .call i_slices_IndexFunc_api_Range_api_Range [.t 5, .t 6]⟩, ⟨some 8, none, .bin false .geq (.t 7) (.c (.int .i64 0))⟩, ⟨some 4, none, .mov (.t 8)⟩])
    .ret)), [.tmp 4]⟩
theorem T_slices_ContainsFunc_api_Range_api_Range : trFn Tryd.prog [] Tryd.f96 = some A_slices_ContainsFunc_api_Range_api_Range := by kernel_rfl
theorem L_slices_ContainsFunc_api_Range_api_Range : 2 ≤ Tryd.f96.ntmps := by decide

def A_evolve_within_1 : AFn := ⟨(.seq (.region [⟨some 2, none, .boxI (.t 0)⟩, ⟨some 3, none, .mov (.c (.bool false))⟩])
 (.seq (.region [⟨some 4, none, .fldA 0 1 false (.t 2)⟩, ⟨some 5, none, .load 1 false (.t 4)⟩, ⟨some 6, none, .fldA 0 1 false (.t 1)⟩, ⟨some 7, none, .load 1 false (.t 6)⟩, ⟨some 8, none, .bin false .leq (.t 5) (.t 7)⟩, ⟨some 9, none, .mov (.t 8)⟩, ⟨some 10, some (9, true), .fldA 1 1 false (.t 1)⟩, ⟨some 11, some (9, true), .load 1 false (.t 10)⟩, ⟨some 12, some (9, true), .fldA 1 1 false (.t 2)⟩, ⟨some 13, some (9, true), .load 1 false (.t 12)⟩, ⟨some 14, some (9, true), .bin false .leq (.t 11) (.t 13)⟩, ⟨some 15, none, .pickb (.t 9) (.t 14) (.c (.bool false))⟩, ⟨some 3, none, .mov (.t 15)⟩])
    .ret)), [.tmp 3]⟩
theorem T_evolve_within_1 : trFn Tryd.prog [] Tryd.f97 = some A_evolve_within_1 := by kernel_rfl
theorem L_evolve_within_1 : 2 ≤ Tryd.f97.ntmps := by decide

def A_cartoucheref18_labels : AFn := ⟨(.seq (.region [⟨some 2, none, .boxI (.t 0)⟩, ⟨some 3, none, .boxI (.t 1)⟩, ⟨some 4, none, .mov (.c (.bool false))⟩])
 (.seq (.seq (.region [⟨some 5, none, .fldA 4 1 false (.t 2)⟩, ⟨some 6, none, .load 1 false (.t 5)⟩, ⟨some 7, none, .bin false .leq (.t 6) (.c (.int .i64 1))⟩, ⟨some 8, none, .mov (.t 7)⟩, ⟨some 9, some (8, true), .fldA 4 1 false (.t 3)⟩, ⟨some 10, some (8, true), .load 1 false (.t 9)⟩, ⟨some 11, some (8, true), .bin false .leq (.t 10) (.c (.int .i64 1))⟩, ⟨some 12, none, .pickb (.t 8) (.t 11) (.c (.bool false))⟩])
 (.cond (.t 12) (.seq (.region [⟨some 13, none, .fldA 2 1 false (.t 2)⟩, ⟨some 14, none, .load 1 false (.t 13)⟩, ⟨some 15, none, .bin false .neq (.t 14) (.c (.int .i64 17))⟩, ⟨some 16, none, .mov (.t 15)⟩, ⟨some 17, some (16, true), .fldA 2 1 false (.t 3)⟩, ⟨some 18, some (16, true), .load 1 false (.t 17)⟩, ⟨some 19, some (16, true), .bin false .neq (.t 18) (.c (.int .i64 17))⟩, ⟨some 20, none, .pickb (.t 16) (.t 19) (.c (.bool false))⟩, ⟨some 4, none, .mov (.t 20)⟩])
    .ret)
    .skip))
 (.seq (.region [⟨some 21, none, .fldA 4 1 false (.t 2)⟩, ⟨some 22, none, .load 1 false (.t 21)⟩, ⟨some 23, none, .bin false .eql (.t 22) (.c (.int .i64 2))⟩, ⟨some 24, none, .mov (.t 23)⟩, ⟨some 25, some (24, false), .fldA 4 1 false (.t 2)⟩, ⟨some 26, some (24, false), .load 1 false (.t 25)⟩, ⟨some 27, some (24, false), .bin false .eql (.t 26) (.c (.int .i64 3))⟩, ⟨some 28, none, .pickb (.t 24) (.c (.bool true)) (.t 27)⟩, ⟨some 29, none, .mov (.t 28)⟩, ⟨some 30, some (29, true), .fldA 4 1 false (.t 3)⟩, ⟨some 31, some (29, true), .load 1 false (.t 30)⟩, ⟨some 32, some (29, true), .bin false .eql (.t 31) (.c (.int .i64 2))⟩, ⟨some 33, some (29, true), .mov (.t 32)⟩, ⟨some 34, some (33, false), .fldA 4 1 false (.t 3)⟩, ⟨some 35, some (33, false), .load 1 false (.t 34)⟩, ⟨some 36, some (33, false), .bin false .eql (.t 35) (.c (.int .i64 3))⟩, ⟨some 37, some (29, true), .pickb (.t 33) (.c (.bool true)) (.t 36)⟩, ⟨some 38, none, .pickb (.t 29) (.t 37) (.c (.bool false))⟩, ⟨some 4, none, .mov (.t 38)⟩])
    .ret))), [.tmp 4]⟩
theorem T_cartoucheref18_labels : trFn Tryd.prog [] Tryd.f98 = some A_cartoucheref18_labels := by kernel_rfl
theorem L_cartoucheref18_labels : 2 ≤ Tryd.f98.ntmps := by decide

def A_evolve_relabels_1 : AFn := ⟨(.seq (.region [⟨some 6, none, .mov (.c (.bool false))⟩])
 (.seq (.region [⟨some 7, none, .fldA 4 1 false (.t 2)⟩, ⟨some 8, none, .load 1 false (.t 7)⟩, ⟨some 9, none, .mov (.t 0)⟩, ⟨some 10, none, .bin false .eql (.t 8) (.t 9)⟩, ⟨some 11, none, .mov (.t 10)⟩, ⟨some 12, some (11, true), .fldA 4 1 false (.t 3)⟩, ⟨some 13, some (11, true), .load 1 false (.t 12)⟩, ⟨some 14, some (11, true), .mov (.t 1)⟩, ⟨some 15, some (11, true), .bin false .eql (.t 13) (.t 14)⟩, ⟨some 16, none, .pickb (.t 11) (.t 15) (.c (.bool false))⟩, ⟨some 17, none, .mov (.t 16)⟩, ⟨some 18, some (17, false), .fldA 4 1 false (.t 2)⟩, ⟨some 19, some (17, false), .load 1 false (.t 18)⟩, ⟨some 20, some (17, false), .mov (.t 1)⟩, ⟨some 21, some (17, false), .bin false .eql (.t 19) (.t 20)⟩, ⟨some 22, some (17, false), .mov (.t 21)⟩, ⟨some 23, some (22, true), .fldA 4 1 false (.t 3)⟩, ⟨some 24, some (22, true), .load 1 false (.t 23)⟩, ⟨some 25, some (22, true), .mov (.t 0)⟩, ⟨some 26, some (22, true), .bin false .eql (.t 24) (.t 25)⟩, ⟨some 27, some (17, false), .pickb (.t 22) (.t 26) (.c (.bool false))⟩, ⟨some 28, none, .pickb (.t 17) (.c (.bool true)) (.t 27)⟩, ⟨some 6, none, .mov (.t 28)⟩])
    .ret)), [.tmp 6]⟩
theorem T_evolve_relabels_1 : trFn Tryd.prog [] Tryd.f105 = some A_evolve_relabels_1 := by kernel_rfl
theorem L_evolve_relabels_1 : 4 ≤ Tryd.f105.ntmps := by decide

def A_slices_IndexFunc_api_Range_api_Range : AFn := ⟨(.seq (.region [⟨some 4, none, .mov (.c (.int .i64 0))⟩])
 (.seq (.seq (.region [⟨some 6, none, .mov (.t 0)⟩, ⟨some 7, none, .len false (.t 6)⟩, ⟨some 8, none, .mov (.c (.int .i64 0))⟩])
 (.block 0 (.loop (.seq (.region [⟨some 9, none, .bin false .lss (.t 8) (.t 7)⟩])
 (.seq (.cond (.t 9) .skip
 (.exit 0))
 (.seq (.block 1 (.seq (.region [⟨some 10, none, .mov (.t 8)⟩, ⟨some 5, none, .mov (.t 10)⟩])
 (.seq (.region [⟨some 11, none, .mov (.t 1)⟩, ⟨some 12, none, .mov (.t 0)⟩, ⟨some 13, none, .mov (.t 5)⟩, ⟨some 14, none, .idxA 2 (.t 12) (.t 13)⟩, ⟨some 15, none, .load 2 true (.t 14)⟩, ⟨some 16, none, .callv (.t 11) [.t 15]⟩])
 (.cond (.t 16) (.seq (.region [⟨some 17, none, .mov (.t 5)⟩, ⟨some 4, none, .mov (.t 17)⟩])
    .ret)
    .skip))))
 (.region [⟨some 18, none, .bin false .add (.t 8) (.c (.int .i64 1))⟩, ⟨some 8, none, .mov (.t 18)⟩])))))))
 (.seq (.region [⟨some 4, none, .mov (.c (.int .i64 (-1)))⟩])
    .ret))), [.tmp 4]⟩
theorem T_slices_IndexFunc_api_Range_api_Range : trFn Tryd.prog [] Tryd.f106 = some A_slices_IndexFunc_api_Range_api_Range := by kernel_rfl
theorem L_slices_IndexFunc_api_Range_api_Range : 2 ≤ Tryd.f106.ntmps := by decide

end Go.Proofs.YtmdkcapbahjipaaDoor.Ag
