/- The functions of the tables' layer as the walk has them. -/
import Derived.Test.YtmdkcapbahjipaaDoorProg
import Derived.Test.YtmdkcapbahjipaaDoorAg16
namespace Go.Proofs.YtmdkcapbahjipaaDoor.Ag
set_option maxRecDepth 100000
abbrev i_strings_Count : FuncId := 100
abbrev i_strings_Index : FuncId := 101
abbrev i_strings_Join : FuncId := 67
abbrev i_strings_explode : FuncId := 99
abbrev i_cartoucheref7_Good : FuncId := 11
theorem F_cartoucheref7_Good : Tryd.prog.funcs[i_cartoucheref7_Good]? = some Tryd.f11 := Tryd.func11
abbrev i_table_Good : FuncId := 13
theorem F_table_Good : Tryd.prog.funcs[i_table_Good]? = some Tryd.f13 := Tryd.func13
abbrev i_cartoucheref7_Find : FuncId := 14
theorem F_cartoucheref7_Find : Tryd.prog.funcs[i_cartoucheref7_Find]? = some Tryd.f14 := Tryd.func14
abbrev i_cartoucheref7_named : FuncId := 38
theorem F_cartoucheref7_named : Tryd.prog.funcs[i_cartoucheref7_named]? = some Tryd.f38 := Tryd.func38
abbrev i_cartoucheref7_enum : FuncId := 39
theorem F_cartoucheref7_enum : Tryd.prog.funcs[i_cartoucheref7_enum]? = some Tryd.f39 := Tryd.func39
abbrev i_cartoucheref7_message : FuncId := 40
theorem F_cartoucheref7_message : Tryd.prog.funcs[i_cartoucheref7_message]? = some Tryd.f40 := Tryd.func40
abbrev i_cartouchelaw7_Simple : FuncId := 41
theorem F_cartouchelaw7_Simple : Tryd.prog.funcs[i_cartouchelaw7_Simple]? = some Tryd.f41 := Tryd.func41
abbrev i_table_goodName : FuncId := 42
theorem F_table_goodName : Tryd.prog.funcs[i_table_goodName]? = some Tryd.f42 := Tryd.func42
abbrev i_table_goodEnum : FuncId := 43
theorem F_table_goodEnum : Tryd.prog.funcs[i_table_goodEnum]? = some Tryd.f43 := Tryd.func43
abbrev i_table_goodMessage : FuncId := 44
theorem F_table_goodMessage : Tryd.prog.funcs[i_table_goodMessage]? = some Tryd.f44 := Tryd.func44
abbrev i_table_At : FuncId := 46
theorem F_table_At : Tryd.prog.funcs[i_table_At]? = some Tryd.f46 := Tryd.func46
abbrev i_cartoucheref3_Numeric : FuncId := 49
theorem F_cartoucheref3_Numeric : Tryd.prog.funcs[i_cartoucheref3_Numeric]? = some Tryd.f49 := Tryd.func49
abbrev i_table_sort : FuncId := 50
theorem F_table_sort : Tryd.prog.funcs[i_table_sort]? = some Tryd.f50 := Tryd.func50
abbrev i_table_SymbolAt : FuncId := 51
theorem F_table_SymbolAt : Tryd.prog.funcs[i_table_SymbolAt]? = some Tryd.f51 := Tryd.func51
abbrev i_cartoucheref7_parts : FuncId := 62
theorem F_cartoucheref7_parts : Tryd.prog.funcs[i_cartoucheref7_parts]? = some Tryd.f62 := Tryd.func62
abbrev i_cartoucheref4_IsName : FuncId := 63
theorem F_cartoucheref4_IsName : Tryd.prog.funcs[i_cartoucheref4_IsName]? = some Tryd.f63 := Tryd.func63
abbrev i_cartoucheref7_field : FuncId := 64
theorem F_cartoucheref7_field : Tryd.prog.funcs[i_cartoucheref7_field]? = some Tryd.f64 := Tryd.func64
abbrev i_strings_Split : FuncId := 65
theorem F_strings_Split : Tryd.prog.funcs[i_strings_Split]? = some Tryd.f65 := Tryd.func65
abbrev i_lex_IsName : FuncId := 66
theorem F_lex_IsName : Tryd.prog.funcs[i_lex_IsName]? = some Tryd.f66 := Tryd.func66
abbrev i_table_named_add : FuncId := 68
theorem F_table_named_add : Tryd.prog.funcs[i_table_named_add]? = some Tryd.f68 := Tryd.func68
abbrev i_table_reserved : FuncId := 69
theorem F_table_reserved : Tryd.prog.funcs[i_table_reserved]? = some Tryd.f69 := Tryd.func69
abbrev i_table_goodField : FuncId := 70
theorem F_table_goodField : Tryd.prog.funcs[i_table_goodField]? = some Tryd.f70 := Tryd.func70
abbrev i_cartoucheref3_Wire : FuncId := 73
theorem F_cartoucheref3_Wire : Tryd.prog.funcs[i_cartoucheref3_Wire]? = some Tryd.f73 := Tryd.func73
abbrev i_cartoucheref4_letter : FuncId := 82
theorem F_cartoucheref4_letter : Tryd.prog.funcs[i_cartoucheref4_letter]? = some Tryd.f82 := Tryd.func82
abbrev i_cartoucheref4_digit : FuncId := 83
theorem F_cartoucheref4_digit : Tryd.prog.funcs[i_cartoucheref4_digit]? = some Tryd.f83 := Tryd.func83
abbrev i_cartoucheref3_IsKey : FuncId := 84
theorem F_cartoucheref3_IsKey : Tryd.prog.funcs[i_cartoucheref3_IsKey]? = some Tryd.f84 := Tryd.func84
abbrev i_strings_genSplit : FuncId := 85
theorem F_strings_genSplit : Tryd.prog.funcs[i_strings_genSplit]? = some Tryd.f85 := Tryd.func85
abbrev i_lex_letter : FuncId := 86
theorem F_lex_letter : Tryd.prog.funcs[i_lex_letter]? = some Tryd.f86 := Tryd.func86
abbrev i_lex_named : FuncId := 87
theorem F_lex_named : Tryd.prog.funcs[i_lex_named]? = some Tryd.f87 := Tryd.func87
abbrev i_scalar_Numeric : FuncId := 91
theorem F_scalar_Numeric : Tryd.prog.funcs[i_scalar_Numeric]? = some Tryd.f91 := Tryd.func91
abbrev i_scalar_IsKey : FuncId := 92
theorem F_scalar_IsKey : Tryd.prog.funcs[i_scalar_IsKey]? = some Tryd.f92 := Tryd.func92
abbrev i_scalar_Wire : FuncId := 93
theorem F_scalar_Wire : Tryd.prog.funcs[i_scalar_Wire]? = some Tryd.f93 := Tryd.func93
abbrev i_lex_digit : FuncId := 102
theorem F_lex_digit : Tryd.prog.funcs[i_lex_digit]? = some Tryd.f102 := Tryd.func102

def A_cartoucheref7_Good : AFn := ⟨(.seq (.region [⟨some 1, none, .boxI (.t 0)⟩, ⟨some 2, none, .mov (.c (.bool false))⟩])
 (.seq (.seq (.region [⟨some 5, none, .fldA 0 1 false (.t 1)⟩, ⟨some 6, none, .load 1 false (.t 5)⟩, ⟨some 7, none, .len false (.t 6)⟩, ⟨some 8, none, .bin false .gtr (.t 7) (.c (.int .i64 128))⟩])
 (.cond (.t 8) (.seq (.region [⟨some 2, none, .mov (.c (.bool false))⟩])
    .ret)
    .skip))
 (.seq (.seq (.region [⟨some 3, none, .mov (.c (.int .i64 0))⟩])
 (.block 0 (.loop (.seq (.seq (.region [⟨some 9, none, .mov (.t 3)⟩, ⟨some 10, none, .fldA 0 1 false (.t 1)⟩, ⟨some 11, none, .load 1 false (.t 10)⟩, ⟨some 12, none, .len false (.t 11)⟩, ⟨some 13, none, .bin false .lss (.t 9) (.t 12)⟩])
 (.cond (.t 13) .skip
 (.exit 0)))
 (.seq (.block 1 (.seq (.region [⟨some 16, none, .fldA 0 1 false (.t 1)⟩, ⟨some 17, none, .load 1 false (.t 16)⟩, ⟨some 18, none, .mov (.t 3)⟩, ⟨some 19, none, .idxA 6 (.t 17) (.t 18)⟩, ⟨some 20, none, .load 6 true (.t 19)⟩, ⟨some 4, none, .alloc 0 [.str ⟨#[]⟩, .bool false, .nil, .nil, .nil, .nil]⟩, ⟨none, none, .store 6 (.t 4) (.t 20)⟩])
 (.seq (.region [⟨some 21, none, .load 1 true (.t 1)⟩, ⟨some 22, none, .mov (.t 3)⟩, ⟨some 23, none, .call i_cartoucheref7_named [.t 21, .t 22]⟩, ⟨some 24, none, .un .not (.t 23)⟩, ⟨some 25, none, .mov (.t 24)⟩, ⟨some 26, some (25, false), .fldA 1 1 false (.t 4)⟩, ⟨some 27, some (25, false), .load 1 false (.t 26)⟩, ⟨some 28, some (25, false), .mov (.t 27)⟩, ⟨some 29, some (28, true), .load 6 true (.t 4)⟩, ⟨some 30, some (28, true), .call i_cartoucheref7_enum [.t 29]⟩, ⟨some 31, some (28, true), .un .not (.t 30)⟩, ⟨some 32, some (25, false), .pickb (.t 28) (.t 31) (.c (.bool false))⟩, ⟨some 33, none, .pickb (.t 25) (.c (.bool true)) (.t 32)⟩, ⟨some 34, none, .mov (.t 33)⟩, ⟨some 35, some (34, false), .fldA 1 1 false (.t 4)⟩, ⟨some 36, some (34, false), .load 1 false (.t 35)⟩, ⟨some 37, some (34, false), .un .not (.t 36)⟩, ⟨some 38, some (34, false), .mov (.t 37)⟩, ⟨some 39, some (38, true), .load 1 true (.t 1)⟩, ⟨some 40, some (38, true), .load 6 true (.t 4)⟩, ⟨some 41, some (38, true), .call i_cartoucheref7_message [.t 39, .t 40]⟩, ⟨some 42, some (38, true), .un .not (.t 41)⟩, ⟨some 43, some (34, false), .pickb (.t 38) (.t 42) (.c (.bool false))⟩, ⟨some 44, none, .pickb (.t 34) (.c (.bool true)) (.t 43)⟩])
 (.cond (.t 44) (.seq (.region [⟨some 2, none, .mov (.c (.bool false))⟩])
    .ret)
    .skip))))
 (.region [⟨some 14, none, .mov (.t 3)⟩, ⟨some 15, none, .bin false .add (.t 14) (.c (.int .i64 1))⟩, ⟨some 3, none, .mov (.t 15)⟩]))))))
 (.seq (.region [⟨some 2, none, .mov (.c (.bool true))⟩])
    .ret)))), [.tmp 2]⟩
theorem T_cartoucheref7_Good : trFn Tryd.prog [(6, [0, 0, 0, 0, 0, 1, 0])] Tryd.f11 = some A_cartoucheref7_Good := by kernel_rfl
theorem L_cartoucheref7_Good : 1 ≤ Tryd.f11.ntmps := by decide

def A_table_Good : AFn := ⟨(.seq (.region [⟨some 1, none, .boxI (.t 0)⟩, ⟨some 2, none, .mov (.c (.bool false))⟩])
 (.seq (.seq (.region [⟨some 8, none, .fldA 0 1 false (.t 1)⟩, ⟨some 9, none, .load 1 false (.t 8)⟩, ⟨some 10, none, .len false (.t 9)⟩, ⟨some 11, none, .bin false .gtr (.t 10) (.c (.int .i64 128))⟩])
 (.cond (.t 11) (.seq (.region [⟨some 2, none, .mov (.c (.bool false))⟩])
    .ret)
    .skip))
 (.seq (.region [⟨some 12, none, .mkmap 0 .str⟩, ⟨some 3, none, .mov (.t 12)⟩])
 (.seq (.seq (.region [⟨some 13, none, .fldA 0 1 false (.t 1)⟩, ⟨some 14, none, .load 1 false (.t 13)⟩, ⟨some 15, none, .len false (.t 14)⟩, ⟨some 16, none, .mov (.c (.int .i64 0))⟩])
 (.block 0 (.loop (.seq (.region [⟨some 17, none, .bin false .lss (.t 16) (.t 15)⟩])
 (.seq (.cond (.t 17) .skip
 (.exit 0))
 (.seq (.block 1 (.seq (.region [⟨some 18, none, .mov (.t 16)⟩, ⟨some 19, none, .idxA 6 (.t 14) (.t 16)⟩, ⟨some 20, none, .load 6 true (.t 19)⟩, ⟨some 5, none, .alloc 1 [.str ⟨#[]⟩, .bool false, .nil, .nil, .nil, .nil]⟩, ⟨some 4, none, .mov (.t 18)⟩, ⟨none, none, .store 6 (.t 5) (.t 20)⟩])
 (.seq (.seq (.region [⟨some 22, none, .mov (.t 3)⟩, ⟨some 23, none, .fldA 0 1 false (.t 5)⟩, ⟨some 24, none, .load 1 false (.t 23)⟩, ⟨some 25, none, .look .str (.int .i64 0) true (.t 22) (.t 24)⟩, ⟨some 21, none, .mov (.t 25)⟩, ⟨some 26, none, .ext 0 (.t 21)⟩, ⟨some 27, none, .ext 1 (.t 21)⟩, ⟨some 6, none, .mov (.t 26)⟩, ⟨some 7, none, .mov (.t 27)⟩])
 (.seq (.region [⟨some 28, none, .mov (.t 7)⟩, ⟨some 29, none, .mov (.t 28)⟩, ⟨some 30, some (29, false), .load 1 true (.t 1)⟩, ⟨some 31, some (29, false), .mov (.t 4)⟩, ⟨some 32, some (29, false), .mov (.t 3)⟩, ⟨some 33, some (29, false), .call i_table_goodName [.t 30, .t 31, .t 32]⟩, ⟨some 34, some (29, false), .un .not (.t 33)⟩, ⟨some 35, none, .pickb (.t 29) (.c (.bool true)) (.t 34)⟩])
 (.cond (.t 35) (.seq (.region [⟨some 2, none, .mov (.c (.bool false))⟩])
    .ret)
    .skip)))
 (.seq (.region [⟨some 36, none, .mov (.t 3)⟩, ⟨some 37, none, .fldA 0 1 false (.t 5)⟩, ⟨some 38, none, .load 1 false (.t 37)⟩, ⟨some 39, none, .mov (.t 4)⟩, ⟨none, none, .mapset .str (.t 36) (.t 38) (.t 39)⟩])
 (.seq (.region [⟨some 40, none, .fldA 1 1 false (.t 5)⟩, ⟨some 41, none, .load 1 false (.t 40)⟩, ⟨some 42, none, .mov (.t 41)⟩, ⟨some 43, some (42, true), .load 6 true (.t 5)⟩, ⟨some 44, some (42, true), .call i_table_goodEnum [.t 43]⟩, ⟨some 45, some (42, true), .un .not (.t 44)⟩, ⟨some 46, none, .pickb (.t 42) (.t 45) (.c (.bool false))⟩, ⟨some 47, none, .mov (.t 46)⟩, ⟨some 48, some (47, false), .fldA 1 1 false (.t 5)⟩, ⟨some 49, some (47, false), .load 1 false (.t 48)⟩, ⟨some 50, some (47, false), .un .not (.t 49)⟩, ⟨some 51, some (47, false), .mov (.t 50)⟩, ⟨some 52, some (51, true), .load 1 true (.t 1)⟩, ⟨some 53, some (51, true), .load 6 true (.t 5)⟩, ⟨some 54, some (51, true), .call i_table_goodMessage [.t 52, .t 53]⟩, ⟨some 55, some (51, true), .un .not (.t 54)⟩, ⟨some 56, some (47, false), .pickb (.t 51) (.t 55) (.c (.bool false))⟩, ⟨some 57, none, .pickb (.t 47) (.c (.bool true)) (.t 56)⟩])
 (.cond (.t 57) (.seq (.region [⟨some 2, none, .mov (.c (.bool false))⟩])
    .ret)
    .skip))))))
 (.region [⟨some 58, none, .bin false .add (.t 16) (.c (.int .i64 1))⟩, ⟨some 16, none, .mov (.t 58)⟩])))))))
 (.seq (.region [⟨some 2, none, .mov (.c (.bool true))⟩])
    .ret))))), [.tmp 2]⟩
theorem T_table_Good : trFn Tryd.prog [(6, [0, 0, 0, 2, 0, 0])] Tryd.f13 = some A_table_Good := by kernel_rfl
theorem L_table_Good : 1 ≤ Tryd.f13.ntmps := by decide

def A_cartoucheref7_Find : AFn := ⟨(.seq (.region [⟨some 2, none, .boxI (.t 0)⟩, ⟨some 4, none, .mov (.c (.int .i64 0))⟩])
 (.seq (.seq (.region [⟨some 5, none, .mov (.c (.int .i64 0))⟩])
 (.block 0 (.loop (.seq (.seq (.region [⟨some 6, none, .mov (.t 5)⟩, ⟨some 7, none, .fldA 0 1 false (.t 2)⟩, ⟨some 8, none, .load 1 false (.t 7)⟩, ⟨some 9, none, .len false (.t 8)⟩, ⟨some 10, none, .bin false .lss (.t 6) (.t 9)⟩])
 (.cond (.t 10) .skip
 (.exit 0)))
 (.seq (.block 1 (.seq (.region [⟨some 13, none, .fldA 0 1 false (.t 2)⟩, ⟨some 14, none, .load 1 false (.t 13)⟩, ⟨some 15, none, .mov (.t 5)⟩, ⟨some 16, none, .idxA 6 (.t 14) (.t 15)⟩, ⟨some 17, none, .fldA 0 1 false (.t 16)⟩, ⟨some 18, none, .load 1 false (.t 17)⟩, ⟨some 19, none, .mov (.t 1)⟩, ⟨some 20, none, .bin false .eql (.t 18) (.t 19)⟩])
 (.cond (.t 20) (.seq (.region [⟨some 21, none, .mov (.t 5)⟩, ⟨some 4, none, .mov (.t 21)⟩])
    .ret)
    .skip)))
 (.region [⟨some 11, none, .mov (.t 5)⟩, ⟨some 12, none, .bin false .add (.t 11) (.c (.int .i64 1))⟩, ⟨some 5, none, .mov (.t 12)⟩]))))))
 (.seq (.region [⟨some 4, none, .mov (.c (.int .i64 (-1)))⟩])
    .ret))), [.tmp 4]⟩
theorem T_cartoucheref7_Find : trFn Tryd.prog [] Tryd.f14 = some A_cartoucheref7_Find := by kernel_rfl
theorem L_cartoucheref7_Find : 2 ≤ Tryd.f14.ntmps := by decide

def A_cartoucheref7_named : AFn := ⟨(.seq (.region [⟨some 2, none, .boxI (.t 0)⟩, ⟨some 4, none, .mov (.c (.bool false))⟩])
 (.seq (.region [⟨some 12, none, .fldA 0 1 false (.t 2)⟩, ⟨some 13, none, .load 1 false (.t 12)⟩, ⟨some 14, none, .mov (.t 1)⟩, ⟨some 15, none, .idxA 6 (.t 13) (.t 14)⟩, ⟨some 16, none, .load 6 true (.t 15)⟩, ⟨some 5, none, .alloc 0 [.str ⟨#[]⟩, .bool false, .nil, .nil, .nil, .nil]⟩, ⟨none, none, .store 6 (.t 5) (.t 16)⟩])
 (.seq (.seq (.region [⟨some 6, none, .mov (.c (.int .i64 0))⟩])
 (.block 0 (.loop (.seq (.seq (.region [⟨some 17, none, .mov (.t 6)⟩, ⟨some 18, none, .mov (.t 1)⟩, ⟨some 19, none, .bin false .lss (.t 17) (.t 18)⟩])
 (.cond (.t 19) .skip
 (.exit 0)))
 (.seq (.block 1 (.seq (.draw [1000001, 1000003, 1000005, 1000007, 4000000] [⟨some 22, none, .fldA 0 1 false (.t 2)⟩, ⟨some 23, none, .load 1 false (.t 22)⟩, ⟨some 24, none, .mov (.t 6)⟩, ⟨some 25, none, .idxA 6 (.t 23) (.t 24)⟩, ⟨some 26, none, .fldA 0 1 false (.t 25)⟩, ⟨some 27, none, .load 1 false (.t 26)⟩, ⟨some 28, none, .fldA 0 1 false (.t 5)⟩, ⟨some 29, none, .load 1 false (.t 28)⟩, ⟨some 30, none, .bin false .eql (.t 27) (.t 29)⟩])
 (.cond (.t 30) (.seq (.region [⟨some 4, none, .mov (.c (.bool false))⟩])
    .ret)
    .skip)))
 (.region [⟨some 20, none, .mov (.t 6)⟩, ⟨some 21, none, .bin false .add (.t 20) (.c (.int .i64 1))⟩, ⟨some 6, none, .mov (.t 21)⟩]))))))
 (.seq (.region [⟨some 31, none, .fldA 0 1 false (.t 5)⟩, ⟨some 32, none, .load 1 false (.t 31)⟩, ⟨some 33, none, .call i_cartoucheref7_parts [.t 32]⟩, ⟨some 7, none, .mov (.t 33)⟩])
 (.seq (.region [⟨some 8, none, .mov (.c (.int .i64 8))⟩])
 (.seq (.seq (.region [⟨some 34, none, .fldA 1 1 false (.t 5)⟩, ⟨some 35, none, .load 1 false (.t 34)⟩])
 (.cond (.t 35) (.region [⟨some 8, none, .mov (.c (.int .i64 9))⟩])
    .skip))
 (.seq (.seq (.region [⟨some 36, none, .mov (.t 7)⟩, ⟨some 37, none, .len false (.t 36)⟩, ⟨some 38, none, .mov (.t 8)⟩, ⟨some 39, none, .bin false .gtr (.t 37) (.t 38)⟩])
 (.cond (.t 39) (.seq (.region [⟨some 4, none, .mov (.c (.bool false))⟩])
    .ret)
    .skip))
 (.seq (.seq (.region [⟨some 9, none, .mov (.c (.int .i64 0))⟩])
 (.block 2 (.loop (.seq (.seq (.region [⟨some 40, none, .mov (.t 9)⟩, ⟨some 41, none, .mov (.t 7)⟩, ⟨some 42, none, .len false (.t 41)⟩, ⟨some 43, none, .bin false .lss (.t 40) (.t 42)⟩])
 (.cond (.t 43) .skip
 (.exit 2)))
 (.seq (.block 3 (.seq (.region [⟨some 46, none, .mov (.t 7)⟩, ⟨some 47, none, .mov (.t 9)⟩, ⟨some 48, none, .idxA 1 (.t 46) (.t 47)⟩, ⟨some 49, none, .load 1 false (.t 48)⟩, ⟨some 50, none, .call i_cartoucheref4_IsName [.t 49]⟩, ⟨some 51, none, .un .not (.t 50)⟩])
 (.cond (.t 51) (.seq (.region [⟨some 4, none, .mov (.c (.bool false))⟩])
    .ret)
    .skip)))
 (.region [⟨some 44, none, .mov (.t 9)⟩, ⟨some 45, none, .bin false .add (.t 44) (.c (.int .i64 1))⟩, ⟨some 9, none, .mov (.t 45)⟩]))))))
 (.seq (.seq (.region [⟨some 52, none, .mov (.t 7)⟩, ⟨some 53, none, .len false (.t 52)⟩, ⟨some 54, none, .bin false .eql (.t 53) (.c (.int .i64 1))⟩])
 (.cond (.t 54) (.seq (.region [⟨some 4, none, .mov (.c (.bool true))⟩])
    .ret)
    .skip))
 (.seq (.draw [1000001, 1000003, 1000004, 1000007, 1000009, 1000010, 1000011, 4000000] [⟨some 55, none, .fldA 0 1 false (.t 5)⟩, ⟨some 56, none, .load 1 false (.t 55)⟩, ⟨some 57, none, .fldA 0 1 false (.t 5)⟩, ⟨some 58, none, .load 1 false (.t 57)⟩, ⟨some 59, none, .len true (.t 58)⟩, ⟨some 60, none, .mov (.t 7)⟩, ⟨some 61, none, .mov (.t 7)⟩, ⟨some 62, none, .len false (.t 61)⟩, ⟨some 63, none, .bin false .sub (.t 62) (.c (.int .i64 1))⟩, ⟨some 64, none, .idxA 1 (.t 60) (.t 63)⟩, ⟨some 65, none, .load 1 false (.t 64)⟩, ⟨some 66, none, .len true (.t 65)⟩, ⟨some 67, none, .bin false .sub (.t 59) (.t 66)⟩, ⟨some 68, none, .bin false .sub (.t 67) (.c (.int .i64 1))⟩, ⟨some 69, none, .slcS (.t 56) none (some (.t 68))⟩, ⟨some 10, none, .mov (.t 69)⟩])
 (.seq (.seq (.region [⟨some 11, none, .mov (.c (.int .i64 0))⟩])
 (.block 4 (.loop (.seq (.seq (.region [⟨some 70, none, .mov (.t 11)⟩, ⟨some 71, none, .mov (.t 1)⟩, ⟨some 72, none, .bin false .lss (.t 70) (.t 71)⟩])
 (.cond (.t 72) .skip
 (.exit 4)))
 (.seq (.block 5 (.seq (.region [⟨some 75, none, .fldA 0 1 false (.t 2)⟩, ⟨some 76, none, .load 1 false (.t 75)⟩, ⟨some 77, none, .mov (.t 11)⟩, ⟨some 78, none, .idxA 6 (.t 76) (.t 77)⟩, ⟨some 79, none, .fldA 0 1 false (.t 78)⟩, ⟨some 80, none, .load 1 false (.t 79)⟩, ⟨some 81, none, .mov (.t 10)⟩, ⟨some 82, none, .bin false .eql (.t 80) (.t 81)⟩])
 (.cond (.t 82) (.seq (.region [⟨some 83, none, .fldA 0 1 false (.t 2)⟩, ⟨some 84, none, .load 1 false (.t 83)⟩, ⟨some 85, none, .mov (.t 11)⟩, ⟨some 86, none, .idxA 6 (.t 84) (.t 85)⟩, ⟨some 87, none, .fldA 1 1 false (.t 86)⟩, ⟨some 88, none, .load 1 false (.t 87)⟩, ⟨some 89, none, .un .not (.t 88)⟩, ⟨some 4, none, .mov (.t 89)⟩])
    .ret)
    .skip)))
 (.region [⟨some 73, none, .mov (.t 11)⟩, ⟨some 74, none, .bin false .add (.t 73) (.c (.int .i64 1))⟩, ⟨some 11, none, .mov (.t 74)⟩]))))))
 (.seq (.region [⟨some 4, none, .mov (.c (.bool false))⟩])
    .ret)))))))))))), [.tmp 4]⟩
theorem T_cartoucheref7_named : trFn Tryd.prog [(1, [0, 0, 0, 0, 0, 1, 0]), (1000005, [1000001, 1000003, 1000005, 1000007, 4000000]), (1000020, [1000001, 1000003, 1000004, 1000007, 1000009, 1000010, 1000011, 4000000])] Tryd.f38 = some A_cartoucheref7_named := by kernel_rfl
theorem L_cartoucheref7_named : 2 ≤ Tryd.f38.ntmps := by decide

def A_cartoucheref7_enum : AFn := ⟨(.seq (.region [⟨some 1, none, .boxI (.t 0)⟩, ⟨some 2, none, .mov (.c (.bool false))⟩])
 (.seq (.region [⟨some 7, none, .fldA 4 1 false (.t 1)⟩, ⟨some 8, none, .load 1 false (.t 7)⟩, ⟨some 9, none, .len false (.t 8)⟩, ⟨some 3, none, .mov (.t 9)⟩])
 (.seq (.seq (.region [⟨some 10, none, .mov (.t 3)⟩, ⟨some 11, none, .bin false .lss (.t 10) (.c (.int .i64 1))⟩, ⟨some 12, none, .mov (.t 11)⟩, ⟨some 13, some (12, false), .mov (.t 3)⟩, ⟨some 14, some (12, false), .bin false .gtr (.t 13) (.c (.int .i64 128))⟩, ⟨some 15, none, .pickb (.t 12) (.c (.bool true)) (.t 14)⟩, ⟨some 16, none, .mov (.t 15)⟩, ⟨some 17, some (16, false), .fldA 4 1 false (.t 1)⟩, ⟨some 18, some (16, false), .load 1 false (.t 17)⟩, ⟨some 19, some (16, false), .idxA 2 (.t 18) (.c (.int .i64 0))⟩, ⟨some 20, some (16, false), .fldA 1 1 false (.t 19)⟩, ⟨some 21, some (16, false), .load 1 false (.t 20)⟩, ⟨some 22, some (16, false), .bin false .neq (.t 21) (.c (.int .i64 0))⟩, ⟨some 23, none, .pickb (.t 16) (.c (.bool true)) (.t 22)⟩, ⟨some 24, none, .mov (.t 23)⟩, ⟨some 25, some (24, false), .fldA 2 1 false (.t 1)⟩, ⟨some 26, some (24, false), .load 1 false (.t 25)⟩, ⟨some 27, some (24, false), .len false (.t 26)⟩, ⟨some 28, some (24, false), .bin false .gtr (.t 27) (.c (.int .i64 0))⟩, ⟨some 29, none, .pickb (.t 24) (.c (.bool true)) (.t 28)⟩, ⟨some 30, none, .mov (.t 29)⟩, ⟨some 31, some (30, false), .fldA 3 1 false (.t 1)⟩, ⟨some 32, some (30, false), .load 1 false (.t 31)⟩, ⟨some 33, some (30, false), .len false (.t 32)⟩, ⟨some 34, some (30, false), .bin false .gtr (.t 33) (.c (.int .i64 0))⟩, ⟨some 35, none, .pickb (.t 30) (.c (.bool true)) (.t 34)⟩, ⟨some 36, none, .mov (.t 35)⟩, ⟨some 37, some (36, false), .fldA 5 1 false (.t 1)⟩, ⟨some 38, some (36, false), .load 1 false (.t 37)⟩, ⟨some 39, some (36, false), .len false (.t 38)⟩, ⟨some 40, some (36, false), .bin false .gtr (.t 39) (.c (.int .i64 0))⟩, ⟨some 41, none, .pickb (.t 36) (.c (.bool true)) (.t 40)⟩])
 (.cond (.t 41) (.seq (.region [⟨some 2, none, .mov (.c (.bool false))⟩])
    .ret)
    .skip))
 (.seq (.seq (.region [⟨some 4, none, .mov (.c (.int .i64 0))⟩])
 (.block 0 (.loop (.seq (.seq (.region [⟨some 42, none, .mov (.t 4)⟩, ⟨some 43, none, .mov (.t 3)⟩, ⟨some 44, none, .bin false .lss (.t 42) (.t 43)⟩])
 (.cond (.t 44) .skip
 (.exit 0)))
 (.seq (.block 1 (.seq (.region [⟨some 47, none, .fldA 4 1 false (.t 1)⟩, ⟨some 48, none, .load 1 false (.t 47)⟩, ⟨some 49, none, .mov (.t 4)⟩, ⟨some 50, none, .idxA 2 (.t 48) (.t 49)⟩, ⟨some 51, none, .load 2 true (.t 50)⟩, ⟨some 5, none, .alloc 0 [.str ⟨#[]⟩, .int .i64 0]⟩, ⟨none, none, .store 2 (.t 5) (.t 51)⟩])
 (.seq (.seq (.region [⟨some 52, none, .fldA 0 1 false (.t 5)⟩, ⟨some 53, none, .load 1 false (.t 52)⟩, ⟨some 54, none, .call i_cartoucheref4_IsName [.t 53]⟩, ⟨some 55, none, .un .not (.t 54)⟩, ⟨some 56, none, .mov (.t 55)⟩, ⟨some 57, some (56, false), .fldA 1 1 false (.t 5)⟩, ⟨some 58, some (56, false), .load 1 false (.t 57)⟩, ⟨some 59, some (56, false), .bin false .lss (.t 58) (.c (.int .i64 0))⟩, ⟨some 60, none, .pickb (.t 56) (.c (.bool true)) (.t 59)⟩, ⟨some 61, none, .mov (.t 60)⟩, ⟨some 62, some (61, false), .fldA 1 1 false (.t 5)⟩, ⟨some 63, some (61, false), .load 1 false (.t 62)⟩, ⟨some 64, some (61, false), .bin false .geq (.t 63) (.c (.int .i64 2147483648))⟩, ⟨some 65, none, .pickb (.t 61) (.c (.bool true)) (.t 64)⟩])
 (.cond (.t 65) (.seq (.region [⟨some 2, none, .mov (.c (.bool false))⟩])
    .ret)
    .skip))
 (.seq (.region [⟨some 6, none, .mov (.c (.int .i64 0))⟩])
 (.block 2 (.loop (.seq (.seq (.region [⟨some 66, none, .mov (.t 6)⟩, ⟨some 67, none, .mov (.t 4)⟩, ⟨some 68, none, .bin false .lss (.t 66) (.t 67)⟩])
 (.cond (.t 68) .skip
 (.exit 2)))
 (.seq (.block 3 (.seq (.draw [1000001, 1000003, 1000005, 1000007, 1000011, 1000013, 1000015, 1000017, 4000000] [⟨some 71, none, .fldA 4 1 false (.t 1)⟩, ⟨some 72, none, .load 1 false (.t 71)⟩, ⟨some 73, none, .mov (.t 6)⟩, ⟨some 74, none, .idxA 2 (.t 72) (.t 73)⟩, ⟨some 75, none, .fldA 0 1 false (.t 74)⟩, ⟨some 76, none, .load 1 false (.t 75)⟩, ⟨some 77, none, .fldA 0 1 false (.t 5)⟩, ⟨some 78, none, .load 1 false (.t 77)⟩, ⟨some 79, none, .bin false .eql (.t 76) (.t 78)⟩, ⟨some 80, none, .mov (.t 79)⟩, ⟨some 81, some (80, false), .fldA 4 1 false (.t 1)⟩, ⟨some 82, some (80, false), .load 1 false (.t 81)⟩, ⟨some 83, some (80, false), .mov (.t 6)⟩, ⟨some 84, some (80, false), .idxA 2 (.t 82) (.t 83)⟩, ⟨some 85, some (80, false), .fldA 1 1 false (.t 84)⟩, ⟨some 86, some (80, false), .load 1 false (.t 85)⟩, ⟨some 87, some (80, false), .fldA 1 1 false (.t 5)⟩, ⟨some 88, some (80, false), .load 1 false (.t 87)⟩, ⟨some 89, some (80, false), .bin false .eql (.t 86) (.t 88)⟩, ⟨some 90, none, .pickb (.t 80) (.c (.bool true)) (.t 89)⟩])
 (.cond (.t 90) (.seq (.region [⟨some 2, none, .mov (.c (.bool false))⟩])
    .ret)
    .skip)))
 (.region [⟨some 69, none, .mov (.t 6)⟩, ⟨some 70, none, .bin false .add (.t 69) (.c (.int .i64 1))⟩, ⟨some 6, none, .mov (.t 70)⟩])))))))))
 (.region [⟨some 45, none, .mov (.t 4)⟩, ⟨some 46, none, .bin false .add (.t 45) (.c (.int .i64 1))⟩, ⟨some 4, none, .mov (.t 46)⟩]))))))
 (.seq (.region [⟨some 2, none, .mov (.c (.bool true))⟩])
    .ret))))), [.tmp 2]⟩
theorem T_cartoucheref7_enum : trFn Tryd.prog [(7, [0, 0, 0, 0, 0, 1, 0]), (1000013, [1000001, 1000003, 1000005, 1000007, 1000011, 1000013, 1000015, 1000017, 4000000])] Tryd.f39 = some A_cartoucheref7_enum := by kernel_rfl
theorem L_cartoucheref7_enum : 1 ≤ Tryd.f39.ntmps := by decide

def A_cartoucheref7_message : AFn := ⟨(.seq (.region [⟨some 2, none, .boxI (.t 0)⟩, ⟨some 3, none, .boxI (.t 1)⟩, ⟨some 4, none, .mov (.c (.bool false))⟩])
 (.seq (.seq (.region [⟨some 16, none, .fldA 4 1 false (.t 3)⟩, ⟨some 17, none, .load 1 false (.t 16)⟩, ⟨some 18, none, .len false (.t 17)⟩, ⟨some 19, none, .bin false .gtr (.t 18) (.c (.int .i64 0))⟩, ⟨some 20, none, .mov (.t 19)⟩, ⟨some 21, some (20, false), .fldA 2 1 false (.t 3)⟩, ⟨some 22, some (20, false), .load 1 false (.t 21)⟩, ⟨some 23, some (20, false), .len false (.t 22)⟩, ⟨some 24, some (20, false), .bin false .gtr (.t 23) (.c (.int .i64 128))⟩, ⟨some 25, none, .pickb (.t 20) (.c (.bool true)) (.t 24)⟩, ⟨some 26, none, .mov (.t 25)⟩, ⟨some 27, some (26, false), .fldA 5 1 false (.t 3)⟩, ⟨some 28, some (26, false), .load 1 false (.t 27)⟩, ⟨some 29, some (26, false), .len false (.t 28)⟩, ⟨some 30, some (26, false), .bin false .gtr (.t 29) (.c (.int .i64 128))⟩, ⟨some 31, none, .pickb (.t 26) (.c (.bool true)) (.t 30)⟩, ⟨some 32, none, .mov (.t 31)⟩, ⟨some 33, some (32, false), .fldA 3 1 false (.t 3)⟩, ⟨some 34, some (32, false), .load 1 false (.t 33)⟩, ⟨some 35, some (32, false), .len false (.t 34)⟩, ⟨some 36, some (32, false), .fldA 2 1 false (.t 3)⟩, ⟨some 37, some (32, false), .load 1 false (.t 36)⟩, ⟨some 38, some (32, false), .len false (.t 37)⟩, ⟨some 39, some (32, false), .bin false .gtr (.t 35) (.t 38)⟩, ⟨some 40, none, .pickb (.t 32) (.c (.bool true)) (.t 39)⟩])
 (.cond (.t 40) (.seq (.region [⟨some 4, none, .mov (.c (.bool false))⟩])
    .ret)
    .skip))
 (.seq (.region [⟨some 5, none, .mov (.c (.nil))⟩])
 (.seq (.seq (.region [⟨some 6, none, .mov (.c (.int .i64 0))⟩])
 (.block 0 (.loop (.seq (.seq (.region [⟨some 41, none, .mov (.t 6)⟩, ⟨some 42, none, .fldA 3 1 false (.t 3)⟩, ⟨some 43, none, .load 1 false (.t 42)⟩, ⟨some 44, none, .len false (.t 43)⟩, ⟨some 45, none, .bin false .lss (.t 41) (.t 44)⟩])
 (.cond (.t 45) .skip
 (.exit 0)))
 (.seq (.block 1 (.seq (.region [⟨some 48, none, .mov (.t 5)⟩, ⟨some 49, none, .fldA 3 1 false (.t 3)⟩, ⟨some 50, none, .load 1 false (.t 49)⟩, ⟨some 51, none, .mov (.t 6)⟩, ⟨some 52, none, .idxA 1 (.t 50) (.t 51)⟩, ⟨some 53, none, .load 1 false (.t 52)⟩, ⟨some 54, none, .bslice 1 [.t 53]⟩, ⟨some 55, none, .app 0 9 1 16 (.t 48) (.t 54)⟩, ⟨some 5, none, .mov (.t 55)⟩])
 (.seq (.region [⟨some 7, none, .mov (.c (.bool false))⟩])
 (.seq (.seq (.region [⟨some 8, none, .mov (.c (.int .i64 0))⟩])
 (.block 2 (.loop (.seq (.seq (.region [⟨some 56, none, .mov (.t 8)⟩, ⟨some 57, none, .fldA 2 1 false (.t 3)⟩, ⟨some 58, none, .load 1 false (.t 57)⟩, ⟨some 59, none, .len false (.t 58)⟩, ⟨some 60, none, .bin false .lss (.t 56) (.t 59)⟩])
 (.cond (.t 60) .skip
 (.exit 2)))
 (.seq (.block 3 (.region [⟨some 63, none, .mov (.t 7)⟩, ⟨some 64, none, .mov (.t 63)⟩, ⟨some 65, some (64, false), .fldA 2 1 false (.t 3)⟩, ⟨some 66, some (64, false), .load 1 false (.t 65)⟩, ⟨some 67, some (64, false), .mov (.t 8)⟩, ⟨some 68, some (64, false), .idxA 7 (.t 66) (.t 67)⟩, ⟨some 69, some (64, false), .fldA 4 1 false (.t 68)⟩, ⟨some 70, some (64, false), .load 1 false (.t 69)⟩, ⟨some 71, some (64, false), .bin false .eql (.t 70) (.c (.int .i64 4))⟩, ⟨some 72, some (64, false), .mov (.t 71)⟩, ⟨some 73, some (72, true), .fldA 2 1 false (.t 3)⟩, ⟨some 74, some (72, true), .load 1 false (.t 73)⟩, ⟨some 75, some (72, true), .mov (.t 8)⟩, ⟨some 76, some (72, true), .idxA 7 (.t 74) (.t 75)⟩, ⟨some 77, some (72, true), .fldA 5 1 false (.t 76)⟩, ⟨some 78, some (72, true), .load 1 false (.t 77)⟩, ⟨some 79, some (72, true), .mov (.t 6)⟩, ⟨some 80, some (72, true), .bin false .eql (.t 78) (.t 79)⟩, ⟨some 81, some (64, false), .pickb (.t 72) (.t 80) (.c (.bool false))⟩, ⟨some 82, none, .pickb (.t 64) (.c (.bool true)) (.t 81)⟩, ⟨some 7, none, .mov (.t 82)⟩]))
 (.region [⟨some 61, none, .mov (.t 8)⟩, ⟨some 62, none, .bin false .add (.t 61) (.c (.int .i64 1))⟩, ⟨some 8, none, .mov (.t 62)⟩]))))))
 (.seq (.region [⟨some 83, none, .mov (.t 7)⟩, ⟨some 84, none, .un .not (.t 83)⟩])
 (.cond (.t 84) (.seq (.region [⟨some 4, none, .mov (.c (.bool false))⟩])
    .ret)
    .skip))))))
 (.region [⟨some 46, none, .mov (.t 6)⟩, ⟨some 47, none, .bin false .add (.t 46) (.c (.int .i64 1))⟩, ⟨some 6, none, .mov (.t 47)⟩]))))))
 (.seq (.seq (.region [⟨some 9, none, .mov (.c (.int .i64 0))⟩])
 (.block 4 (.loop (.seq (.seq (.region [⟨some 85, none, .mov (.t 9)⟩, ⟨some 86, none, .fldA 2 1 false (.t 3)⟩, ⟨some 87, none, .load 1 false (.t 86)⟩, ⟨some 88, none, .len false (.t 87)⟩, ⟨some 89, none, .bin false .lss (.t 85) (.t 88)⟩])
 (.cond (.t 89) .skip
 (.exit 4)))
 (.seq (.block 5 (.seq (.region [⟨some 92, none, .fldA 2 1 false (.t 3)⟩, ⟨some 93, none, .load 1 false (.t 92)⟩, ⟨some 94, none, .mov (.t 9)⟩, ⟨some 95, none, .idxA 7 (.t 93) (.t 94)⟩, ⟨some 96, none, .load 7 true (.t 95)⟩, ⟨some 10, none, .alloc 1 [.str ⟨#[]⟩, .int .i64 0, .int .i64 0, .int .i64 0, .int .i64 0, .int .i64 0, .int .i64 0]⟩, ⟨none, none, .store 7 (.t 10) (.t 96)⟩])
 (.seq (.region [⟨some 97, none, .mov (.t 5)⟩, ⟨some 98, none, .fldA 0 1 false (.t 10)⟩, ⟨some 99, none, .load 1 false (.t 98)⟩, ⟨some 100, none, .bslice 1 [.t 99]⟩, ⟨some 101, none, .app 0 9 1 16 (.t 97) (.t 100)⟩, ⟨some 5, none, .mov (.t 101)⟩])
 (.seq (.seq (.draw [1000000, 1000001, 1000002, 1000010, 1000013, 1000015, 1000017, 4000000, 4000001, 4000002] [⟨some 102, none, .load 1 true (.t 2)⟩, ⟨some 103, none, .load 6 true (.t 3)⟩, ⟨some 104, none, .load 7 true (.t 10)⟩, ⟨some 105, none, .call i_cartoucheref7_field [.t 102, .t 103, .t 104]⟩, ⟨some 106, none, .un .not (.t 105)⟩, ⟨some 107, none, .mov (.t 106)⟩, ⟨some 108, some (107, false), .mov (.t 9)⟩, ⟨some 109, some (107, false), .bin false .gtr (.t 108) (.c (.int .i64 0))⟩, ⟨some 110, some (107, false), .mov (.t 109)⟩, ⟨some 111, some (110, true), .fldA 2 1 false (.t 3)⟩, ⟨some 112, some (110, true), .load 1 false (.t 111)⟩, ⟨some 113, some (110, true), .mov (.t 9)⟩, ⟨some 114, some (110, true), .bin false .sub (.t 113) (.c (.int .i64 1))⟩, ⟨some 115, some (110, true), .idxA 7 (.t 112) (.t 114)⟩, ⟨some 116, some (110, true), .fldA 1 1 false (.t 115)⟩, ⟨some 117, some (110, true), .load 1 false (.t 116)⟩, ⟨some 118, some (110, true), .fldA 1 1 false (.t 10)⟩, ⟨some 119, some (110, true), .load 1 false (.t 118)⟩, ⟨some 120, some (110, true), .bin false .geq (.t 117) (.t 119)⟩, ⟨some 121, some (107, false), .pickb (.t 110) (.t 120) (.c (.bool false))⟩, ⟨some 122, none, .pickb (.t 107) (.c (.bool true)) (.t 121)⟩])
 (.cond (.t 122) (.seq (.region [⟨some 4, none, .mov (.c (.bool false))⟩])
    .ret)
    .skip))
 (.seq (.region [⟨some 11, none, .mov (.c (.int .i64 0))⟩])
 (.block 6 (.loop (.seq (.seq (.region [⟨some 123, none, .mov (.t 11)⟩, ⟨some 124, none, .fldA 5 1 false (.t 3)⟩, ⟨some 125, none, .load 1 false (.t 124)⟩, ⟨some 126, none, .len false (.t 125)⟩, ⟨some 127, none, .bin false .lss (.t 123) (.t 126)⟩])
 (.cond (.t 127) .skip
 (.exit 6)))
 (.seq (.block 7 (.seq (.draw [1000001, 1000003, 1000005, 1000007, 1000011, 1000013, 1000015, 1000017, 4000000, 4000001, 4000002] [⟨some 130, none, .fldA 1 1 false (.t 10)⟩, ⟨some 131, none, .load 1 false (.t 130)⟩, ⟨some 132, none, .fldA 5 1 false (.t 3)⟩, ⟨some 133, none, .load 1 false (.t 132)⟩, ⟨some 134, none, .mov (.t 11)⟩, ⟨some 135, none, .idxA 2 (.t 133) (.t 134)⟩, ⟨some 136, none, .fldA 0 1 false (.t 135)⟩, ⟨some 137, none, .load 1 false (.t 136)⟩, ⟨some 138, none, .bin false .geq (.t 131) (.t 137)⟩, ⟨some 139, none, .mov (.t 138)⟩, ⟨some 140, some (139, true), .fldA 1 1 false (.t 10)⟩, ⟨some 141, some (139, true), .load 1 false (.t 140)⟩, ⟨some 142, some (139, true), .fldA 5 1 false (.t 3)⟩, ⟨some 143, some (139, true), .load 1 false (.t 142)⟩, ⟨some 144, some (139, true), .mov (.t 11)⟩, ⟨some 145, some (139, true), .idxA 2 (.t 143) (.t 144)⟩, ⟨some 146, some (139, true), .fldA 1 1 false (.t 145)⟩, ⟨some 147, some (139, true), .load 1 false (.t 146)⟩, ⟨some 148, some (139, true), .bin false .leq (.t 141) (.t 147)⟩, ⟨some 149, none, .pickb (.t 139) (.t 148) (.c (.bool false))⟩])
 (.cond (.t 149) (.seq (.region [⟨some 4, none, .mov (.c (.bool false))⟩])
    .ret)
    .skip)))
 (.region [⟨some 128, none, .mov (.t 11)⟩, ⟨some 129, none, .bin false .add (.t 128) (.c (.int .i64 1))⟩, ⟨some 11, none, .mov (.t 129)⟩]))))))))))
 (.region [⟨some 90, none, .mov (.t 9)⟩, ⟨some 91, none, .bin false .add (.t 90) (.c (.int .i64 1))⟩, ⟨some 9, none, .mov (.t 91)⟩]))))))
 (.seq (.seq (.region [⟨some 12, none, .mov (.c (.int .i64 0))⟩])
 (.block 8 (.loop (.seq (.seq (.region [⟨some 150, none, .mov (.t 12)⟩, ⟨some 151, none, .mov (.t 5)⟩, ⟨some 152, none, .len false (.t 151)⟩, ⟨some 153, none, .bin false .lss (.t 150) (.t 152)⟩])
 (.cond (.t 153) .skip
 (.exit 8)))
 (.seq (.block 9 (.seq (.seq (.region [⟨some 156, none, .mov (.t 5)⟩, ⟨some 157, none, .mov (.t 12)⟩, ⟨some 158, none, .idxA 1 (.t 156) (.t 157)⟩, ⟨some 159, none, .load 1 false (.t 158)⟩, ⟨some 160, none, .call i_cartoucheref4_IsName [.t 159]⟩, ⟨some 161, none, .un .not (.t 160)⟩])
 (.cond (.t 161) (.seq (.region [⟨some 4, none, .mov (.c (.bool false))⟩])
    .ret)
    .skip))
 (.seq (.region [⟨some 13, none, .mov (.c (.int .i64 0))⟩])
 (.block 10 (.loop (.seq (.seq (.region [⟨some 162, none, .mov (.t 13)⟩, ⟨some 163, none, .mov (.t 12)⟩, ⟨some 164, none, .bin false .lss (.t 162) (.t 163)⟩])
 (.cond (.t 164) .skip
 (.exit 10)))
 (.seq (.block 11 (.seq (.draw [1000002, 1000003, 1000006, 1000007, 4000000, 4000001, 4000002] [⟨some 167, none, .mov (.t 5)⟩, ⟨some 168, none, .mov (.t 12)⟩, ⟨some 169, none, .idxA 1 (.t 167) (.t 168)⟩, ⟨some 170, none, .load 1 false (.t 169)⟩, ⟨some 171, none, .mov (.t 5)⟩, ⟨some 172, none, .mov (.t 13)⟩, ⟨some 173, none, .idxA 1 (.t 171) (.t 172)⟩, ⟨some 174, none, .load 1 false (.t 173)⟩, ⟨some 175, none, .bin false .eql (.t 170) (.t 174)⟩])
 (.cond (.t 175) (.seq (.region [⟨some 4, none, .mov (.c (.bool false))⟩])
    .ret)
    .skip)))
 (.region [⟨some 165, none, .mov (.t 13)⟩, ⟨some 166, none, .bin false .add (.t 165) (.c (.int .i64 1))⟩, ⟨some 13, none, .mov (.t 166)⟩]))))))))
 (.region [⟨some 154, none, .mov (.t 12)⟩, ⟨some 155, none, .bin false .add (.t 154) (.c (.int .i64 1))⟩, ⟨some 12, none, .mov (.t 155)⟩]))))))
 (.seq (.seq (.region [⟨some 14, none, .mov (.c (.int .i64 0))⟩])
 (.block 12 (.loop (.seq (.seq (.region [⟨some 176, none, .mov (.t 14)⟩, ⟨some 177, none, .fldA 5 1 false (.t 3)⟩, ⟨some 178, none, .load 1 false (.t 177)⟩, ⟨some 179, none, .len false (.t 178)⟩, ⟨some 180, none, .bin false .lss (.t 176) (.t 179)⟩])
 (.cond (.t 180) .skip
 (.exit 12)))
 (.seq (.block 13 (.seq (.region [⟨some 183, none, .fldA 5 1 false (.t 3)⟩, ⟨some 184, none, .load 1 false (.t 183)⟩, ⟨some 185, none, .mov (.t 14)⟩, ⟨some 186, none, .idxA 2 (.t 184) (.t 185)⟩, ⟨some 187, none, .load 2 true (.t 186)⟩, ⟨some 15, none, .alloc 2 [.int .i64 0, .int .i64 0]⟩, ⟨none, none, .store 2 (.t 15) (.t 187)⟩])
 (.seq (.draw [1000001, 1000005, 1000010, 1000012, 1000020, 1000023, 1000025, 1000027, 4000000, 4000001, 4000002] [⟨some 188, none, .fldA 0 1 false (.t 15)⟩, ⟨some 189, none, .load 1 false (.t 188)⟩, ⟨some 190, none, .bin false .lss (.t 189) (.c (.int .i64 1))⟩, ⟨some 191, none, .mov (.t 190)⟩, ⟨some 192, some (191, false), .fldA 1 1 false (.t 15)⟩, ⟨some 193, some (191, false), .load 1 false (.t 192)⟩, ⟨some 194, some (191, false), .bin false .gtr (.t 193) (.c (.int .i64 536870911))⟩, ⟨some 195, none, .pickb (.t 191) (.c (.bool true)) (.t 194)⟩, ⟨some 196, none, .mov (.t 195)⟩, ⟨some 197, some (196, false), .fldA 0 1 false (.t 15)⟩, ⟨some 198, some (196, false), .load 1 false (.t 197)⟩, ⟨some 199, some (196, false), .fldA 1 1 false (.t 15)⟩, ⟨some 200, some (196, false), .load 1 false (.t 199)⟩, ⟨some 201, some (196, false), .bin false .gtr (.t 198) (.t 200)⟩, ⟨some 202, none, .pickb (.t 196) (.c (.bool true)) (.t 201)⟩, ⟨some 203, none, .mov (.t 202)⟩, ⟨some 204, some (203, false), .mov (.t 14)⟩, ⟨some 205, some (203, false), .bin false .gtr (.t 204) (.c (.int .i64 0))⟩, ⟨some 206, some (203, false), .mov (.t 205)⟩, ⟨some 207, some (206, true), .fldA 5 1 false (.t 3)⟩, ⟨some 208, some (206, true), .load 1 false (.t 207)⟩, ⟨some 209, some (206, true), .mov (.t 14)⟩, ⟨some 210, some (206, true), .bin false .sub (.t 209) (.c (.int .i64 1))⟩, ⟨some 211, some (206, true), .idxA 2 (.t 208) (.t 210)⟩, ⟨some 212, some (206, true), .fldA 1 1 false (.t 211)⟩, ⟨some 213, some (206, true), .load 1 false (.t 212)⟩, ⟨some 214, some (206, true), .fldA 0 1 false (.t 15)⟩, ⟨some 215, some (206, true), .load 1 false (.t 214)⟩, ⟨some 216, some (206, true), .bin false .geq (.t 213) (.t 215)⟩, ⟨some 217, some (203, false), .pickb (.t 206) (.t 216) (.c (.bool false))⟩, ⟨some 218, none, .pickb (.t 203) (.c (.bool true)) (.t 217)⟩])
 (.cond (.t 218) (.seq (.region [⟨some 4, none, .mov (.c (.bool false))⟩])
    .ret)
    .skip))))
 (.region [⟨some 181, none, .mov (.t 14)⟩, ⟨some 182, none, .bin false .add (.t 181) (.c (.int .i64 1))⟩, ⟨some 14, none, .mov (.t 182)⟩]))))))
 (.seq (.region [⟨some 4, none, .mov (.c (.bool true))⟩])
    .ret)))))))), [.tmp 4]⟩
theorem T_cartoucheref7_message : trFn Tryd.prog [(18, [0, 0, 0, 0, 0, 2, 0]), (40, [0, 0, 0, 0, 0, 3, 0]), (1000020, [1000000, 1000001, 1000002, 1000010, 1000013, 1000015, 1000017, 4000000, 4000001, 4000002]), (1000025, [1000001, 1000003, 1000005, 1000007, 1000011, 1000013, 1000015, 1000017, 4000000, 4000001, 4000002]), (1000035, [1000002, 1000003, 1000006, 1000007, 4000000, 4000001, 4000002]), (1000041, [1000001, 1000005, 1000010, 1000012, 1000020, 1000023, 1000025, 1000027, 4000000, 4000001, 4000002])] Tryd.f40 = some A_cartoucheref7_message := by kernel_rfl
theorem L_cartoucheref7_message : 2 ≤ Tryd.f40.ntmps := by decide

def A_cartouchelaw7_Simple : AFn := ⟨(.seq (.region [⟨some 0, none, .alloc 0 [.nil]⟩])
 (.seq (.region [⟨some 1, none, .build [.str ⟨#[]⟩, .int .i64 0] [(0, 1, .c (.str ⟨#[65]⟩))]⟩, ⟨some 2, none, .bslice 2 [.t 1]⟩, ⟨some 3, none, .build [.str ⟨#[]⟩, .bool false, .nil, .nil, .nil, .nil] [(0, 1, .c (.str ⟨#[69]⟩)), (1, 1, .c (.bool true)), (4, 1, .t 2)]⟩, ⟨some 4, none, .build [.str ⟨#[]⟩, .int .i64 0, .int .i64 0, .int .i64 0, .int .i64 0, .int .i64 0, .int .i64 0] [(0, 1, .c (.str ⟨#[120]⟩)), (1, 1, .c (.int .i64 1)), (2, 1, .c (.int .i64 2))]⟩, ⟨some 5, none, .build [.str ⟨#[]⟩, .int .i64 0, .int .i64 0, .int .i64 0, .int .i64 0, .int .i64 0, .int .i64 0] [(0, 1, .c (.str ⟨#[108]⟩)), (1, 1, .c (.int .i64 2)), (2, 1, .c (.int .i64 4)), (4, 1, .c (.int .i64 3))]⟩, ⟨some 6, none, .build [.str ⟨#[]⟩, .int .i64 0, .int .i64 0, .int .i64 0, .int .i64 0, .int .i64 0, .int .i64 0] [(0, 1, .c (.str ⟨#[109]⟩)), (1, 1, .c (.int .i64 3)), (2, 1, .c (.int .i64 17)), (3, 1, .c (.int .i64 1)), (4, 1, .c (.int .i64 1))]⟩, ⟨some 7, none, .bslice 7 [.t 4, .t 5, .t 6]⟩, ⟨some 8, none, .build [.str ⟨#[]⟩, .bool false, .nil, .nil, .nil, .nil] [(0, 1, .c (.str ⟨#[77]⟩)), (2, 1, .t 7)]⟩, ⟨some 9, none, .bslice 6 [.t 3, .t 8]⟩, ⟨some 10, none, .build [.nil] [(0, 1, .t 9)]⟩, ⟨none, none, .store 1 (.t 0) (.t 10)⟩])
    .ret)), [.cell 0 1 true]⟩
theorem T_cartouchelaw7_Simple : trFn Tryd.prog [(0, [1])] Tryd.f41 = some A_cartouchelaw7_Simple := by kernel_rfl
theorem L_cartouchelaw7_Simple : 0 ≤ Tryd.f41.ntmps := by decide

def A_table_goodName : AFn := ⟨(.seq (.region [⟨some 3, none, .boxI (.t 0)⟩, ⟨some 6, none, .mov (.c (.bool false))⟩])
 (.seq (.region [⟨some 14, none, .fldA 0 1 false (.t 3)⟩, ⟨some 15, none, .load 1 false (.t 14)⟩, ⟨some 16, none, .mov (.t 1)⟩, ⟨some 17, none, .idxA 6 (.t 15) (.t 16)⟩, ⟨some 18, none, .load 6 true (.t 17)⟩, ⟨some 7, none, .alloc 95 [.str ⟨#[]⟩, .bool false, .nil, .nil, .nil, .nil]⟩, ⟨none, none, .store 6 (.t 7) (.t 18)⟩])
 (.seq (.region [⟨some 19, none, .fldA 0 1 false (.t 7)⟩, ⟨some 20, none, .load 1 false (.t 19)⟩, ⟨some 21, none, .call i_strings_Split [.t 20, .c (.str ⟨#[46]⟩)]⟩, ⟨some 8, none, .mov (.t 21)⟩])
 (.seq (.region [⟨some 9, none, .mov (.c (.int .i64 8))⟩])
 (.seq (.seq (.region [⟨some 22, none, .fldA 1 1 false (.t 7)⟩, ⟨some 23, none, .load 1 false (.t 22)⟩])
 (.cond (.t 23) (.region [⟨some 24, none, .mov (.t 9)⟩, ⟨some 25, none, .bin false .add (.t 24) (.c (.int .i64 1))⟩, ⟨some 9, none, .mov (.t 25)⟩])
    .skip))
 (.seq (.seq (.region [⟨some 26, none, .mov (.t 8)⟩, ⟨some 27, none, .len false (.t 26)⟩, ⟨some 28, none, .mov (.t 9)⟩, ⟨some 29, none, .bin false .gtr (.t 27) (.t 28)⟩])
 (.cond (.t 29) (.seq (.region [⟨some 6, none, .mov (.c (.bool false))⟩])
    .ret)
    .skip))
 (.seq (.seq (.region [⟨some 30, none, .mov (.t 8)⟩, ⟨some 31, none, .len false (.t 30)⟩, ⟨some 32, none, .mov (.c (.int .i64 0))⟩])
 (.block 0 (.loop (.seq (.region [⟨some 33, none, .bin false .lss (.t 32) (.t 31)⟩])
 (.seq (.cond (.t 33) .skip
 (.exit 0))
 (.seq (.block 1 (.seq (.region [⟨some 34, none, .idxA 1 (.t 30) (.t 32)⟩, ⟨some 35, none, .load 1 false (.t 34)⟩, ⟨some 11, none, .mov (.t 35)⟩])
 (.seq (.region [⟨some 36, none, .mov (.t 11)⟩, ⟨some 37, none, .call i_lex_IsName [.t 36]⟩, ⟨some 38, none, .un .not (.t 37)⟩])
 (.cond (.t 38) (.seq (.region [⟨some 6, none, .mov (.c (.bool false))⟩])
    .ret)
    .skip))))
 (.region [⟨some 39, none, .bin false .add (.t 32) (.c (.int .i64 1))⟩, ⟨some 32, none, .mov (.t 39)⟩])))))))
 (.seq (.seq (.region [⟨some 40, none, .mov (.t 8)⟩, ⟨some 41, none, .len false (.t 40)⟩, ⟨some 42, none, .bin false .eql (.t 41) (.c (.int .i64 1))⟩])
 (.cond (.t 42) (.seq (.region [⟨some 6, none, .mov (.c (.bool true))⟩])
    .ret)
    .skip))
 (.seq (.region [⟨some 44, none, .mov (.t 2)⟩, ⟨some 45, none, .mov (.t 8)⟩, ⟨some 46, none, .mov (.t 8)⟩, ⟨some 47, none, .len false (.t 46)⟩, ⟨some 48, none, .bin false .sub (.t 47) (.c (.int .i64 1))⟩, ⟨some 49, none, .slc 1 (.t 45) none (some (.t 48)) none⟩, ⟨some 50, none, .call i_strings_Join [.t 49, .c (.str ⟨#[46]⟩)]⟩, ⟨some 51, none, .look .str (.int .i64 0) true (.t 44) (.t 50)⟩, ⟨some 43, none, .mov (.t 51)⟩, ⟨some 52, none, .ext 0 (.t 43)⟩, ⟨some 53, none, .ext 1 (.t 43)⟩, ⟨some 12, none, .mov (.t 52)⟩, ⟨some 13, none, .mov (.t 53)⟩])
 (.seq (.region [⟨some 54, none, .mov (.t 13)⟩, ⟨some 55, none, .mov (.t 54)⟩, ⟨some 56, some (55, true), .fldA 0 1 false (.t 3)⟩, ⟨some 57, some (55, true), .load 1 false (.t 56)⟩, ⟨some 58, some (55, true), .mov (.t 12)⟩, ⟨some 59, some (55, true), .idxA 6 (.t 57) (.t 58)⟩, ⟨some 60, some (55, true), .fldA 1 1 false (.t 59)⟩, ⟨some 61, some (55, true), .load 1 false (.t 60)⟩, ⟨some 62, some (55, true), .un .not (.t 61)⟩, ⟨some 63, none, .pickb (.t 55) (.t 62) (.c (.bool false))⟩, ⟨some 6, none, .mov (.t 63)⟩])
    .ret)))))))))), [.tmp 6]⟩
theorem T_table_goodName : trFn Tryd.prog [(1, [0, 0, 0, 0, 0, 96, 0])] Tryd.f42 = some A_table_goodName := by kernel_rfl
theorem L_table_goodName : 3 ≤ Tryd.f42.ntmps := by decide

def A_table_goodEnum : AFn := ⟨(.seq (.region [⟨some 1, none, .boxI (.t 0)⟩, ⟨some 2, none, .mov (.c (.bool false))⟩])
 (.seq (.seq (.region [⟨some 7, none, .fldA 4 1 false (.t 1)⟩, ⟨some 8, none, .load 1 false (.t 7)⟩, ⟨some 9, none, .len false (.t 8)⟩, ⟨some 10, none, .bin false .lss (.t 9) (.c (.int .i64 1))⟩, ⟨some 11, none, .mov (.t 10)⟩, ⟨some 12, some (11, false), .fldA 4 1 false (.t 1)⟩, ⟨some 13, some (11, false), .load 1 false (.t 12)⟩, ⟨some 14, some (11, false), .len false (.t 13)⟩, ⟨some 15, some (11, false), .bin false .gtr (.t 14) (.c (.int .i64 128))⟩, ⟨some 16, none, .pickb (.t 11) (.c (.bool true)) (.t 15)⟩, ⟨some 17, none, .mov (.t 16)⟩, ⟨some 18, some (17, false), .fldA 4 1 false (.t 1)⟩, ⟨some 19, some (17, false), .load 1 false (.t 18)⟩, ⟨some 20, some (17, false), .idxA 2 (.t 19) (.c (.int .i64 0))⟩, ⟨some 21, some (17, false), .fldA 1 1 false (.t 20)⟩, ⟨some 22, some (17, false), .load 1 false (.t 21)⟩, ⟨some 23, some (17, false), .bin false .neq (.t 22) (.c (.int .i64 0))⟩, ⟨some 24, none, .pickb (.t 17) (.c (.bool true)) (.t 23)⟩, ⟨some 25, none, .mov (.t 24)⟩, ⟨some 26, some (25, false), .fldA 2 1 false (.t 1)⟩, ⟨some 27, some (25, false), .load 1 false (.t 26)⟩, ⟨some 28, some (25, false), .len false (.t 27)⟩, ⟨some 29, some (25, false), .fldA 3 1 false (.t 1)⟩, ⟨some 30, some (25, false), .load 1 false (.t 29)⟩, ⟨some 31, some (25, false), .len false (.t 30)⟩, ⟨some 32, some (25, false), .bin false .add (.t 28) (.t 31)⟩, ⟨some 33, some (25, false), .fldA 5 1 false (.t 1)⟩, ⟨some 34, some (25, false), .load 1 false (.t 33)⟩, ⟨some 35, some (25, false), .len false (.t 34)⟩, ⟨some 36, some (25, false), .bin false .add (.t 32) (.t 35)⟩, ⟨some 37, some (25, false), .bin false .gtr (.t 36) (.c (.int .i64 0))⟩, ⟨some 38, none, .pickb (.t 25) (.c (.bool true)) (.t 37)⟩])
 (.cond (.t 38) (.seq (.region [⟨some 2, none, .mov (.c (.bool false))⟩])
    .ret)
    .skip))
 (.seq (.region [⟨some 39, none, .mkmap 0 .str⟩, ⟨some 40, none, .mkmap 1 (.int .i64)⟩, ⟨some 3, none, .mov (.t 39)⟩, ⟨some 4, none, .mov (.t 40)⟩])
 (.seq (.seq (.region [⟨some 41, none, .fldA 4 1 false (.t 1)⟩, ⟨some 42, none, .load 1 false (.t 41)⟩, ⟨some 43, none, .len false (.t 42)⟩, ⟨some 44, none, .mov (.c (.int .i64 0))⟩])
 (.block 0 (.loop (.seq (.region [⟨some 45, none, .bin false .lss (.t 44) (.t 43)⟩])
 (.seq (.cond (.t 45) .skip
 (.exit 0))
 (.seq (.block 1 (.seq (.region [⟨some 46, none, .idxA 2 (.t 42) (.t 44)⟩, ⟨some 47, none, .load 2 true (.t 46)⟩, ⟨some 6, none, .alloc 2 [.str ⟨#[]⟩, .int .i64 0]⟩, ⟨none, none, .store 2 (.t 6) (.t 47)⟩])
 (.seq (.seq (.region [⟨some 48, none, .fldA 0 1 false (.t 6)⟩, ⟨some 49, none, .load 1 false (.t 48)⟩, ⟨some 50, none, .call i_lex_IsName [.t 49]⟩, ⟨some 51, none, .un .not (.t 50)⟩, ⟨some 52, none, .mov (.t 51)⟩, ⟨some 53, some (52, false), .mov (.t 3)⟩, ⟨some 54, some (52, false), .fldA 0 1 false (.t 6)⟩, ⟨some 55, some (52, false), .load 1 false (.t 54)⟩, ⟨some 56, some (52, false), .call i_table_named_add [.t 53, .t 55]⟩, ⟨some 57, some (52, false), .un .not (.t 56)⟩, ⟨some 58, none, .pickb (.t 52) (.c (.bool true)) (.t 57)⟩, ⟨some 59, none, .mov (.t 58)⟩, ⟨some 60, some (59, false), .fldA 1 1 false (.t 6)⟩, ⟨some 61, some (59, false), .load 1 false (.t 60)⟩, ⟨some 62, some (59, false), .bin false .lss (.t 61) (.c (.int .i64 0))⟩, ⟨some 63, none, .pickb (.t 59) (.c (.bool true)) (.t 62)⟩, ⟨some 64, none, .mov (.t 63)⟩, ⟨some 65, some (64, false), .fldA 1 1 false (.t 6)⟩, ⟨some 66, some (64, false), .load 1 false (.t 65)⟩, ⟨some 67, some (64, false), .bin false .gtr (.t 66) (.c (.int .i64 2147483647))⟩, ⟨some 68, none, .pickb (.t 64) (.c (.bool true)) (.t 67)⟩])
 (.cond (.t 68) (.seq (.region [⟨some 2, none, .mov (.c (.bool false))⟩])
    .ret)
    .skip))
 (.region [⟨some 69, none, .mov (.t 4)⟩, ⟨some 70, none, .fldA 1 1 false (.t 6)⟩, ⟨some 71, none, .load 1 false (.t 70)⟩, ⟨some 72, none, .build [] []⟩, ⟨none, none, .mapset (.int .i64) (.t 69) (.t 71) (.t 72)⟩]))))
 (.region [⟨some 73, none, .bin false .add (.t 44) (.c (.int .i64 1))⟩, ⟨some 44, none, .mov (.t 73)⟩])))))))
 (.seq (.region [⟨some 74, none, .mov (.t 4)⟩, ⟨some 75, none, .lenm (.t 74)⟩, ⟨some 76, none, .fldA 4 1 false (.t 1)⟩, ⟨some 77, none, .load 1 false (.t 76)⟩, ⟨some 78, none, .len false (.t 77)⟩, ⟨some 79, none, .bin false .eql (.t 75) (.t 78)⟩, ⟨some 2, none, .mov (.t 79)⟩])
    .ret))))), [.tmp 2]⟩
theorem T_table_goodEnum : trFn Tryd.prog [(3, [0, 1, 0, 0]), (6, [0, 0, 3, 0])] Tryd.f43 = some A_table_goodEnum := by kernel_rfl
theorem L_table_goodEnum : 1 ≤ Tryd.f43.ntmps := by decide

def A_table_goodMessage : AFn := ⟨(.seq (.region [⟨some 2, none, .boxI (.t 0)⟩, ⟨some 3, none, .boxI (.t 1)⟩, ⟨some 4, none, .mov (.c (.bool false))⟩])
 (.seq (.seq (.region [⟨some 16, none, .fldA 4 1 false (.t 3)⟩, ⟨some 17, none, .load 1 false (.t 16)⟩, ⟨some 18, none, .len false (.t 17)⟩, ⟨some 19, none, .bin false .gtr (.t 18) (.c (.int .i64 0))⟩, ⟨some 20, none, .mov (.t 19)⟩, ⟨some 21, some (20, false), .fldA 2 1 false (.t 3)⟩, ⟨some 22, some (20, false), .load 1 false (.t 21)⟩, ⟨some 23, some (20, false), .len false (.t 22)⟩, ⟨some 24, some (20, false), .bin false .gtr (.t 23) (.c (.int .i64 128))⟩, ⟨some 25, none, .pickb (.t 20) (.c (.bool true)) (.t 24)⟩, ⟨some 26, none, .mov (.t 25)⟩, ⟨some 27, some (26, false), .fldA 5 1 false (.t 3)⟩, ⟨some 28, some (26, false), .load 1 false (.t 27)⟩, ⟨some 29, some (26, false), .len false (.t 28)⟩, ⟨some 30, some (26, false), .bin false .gtr (.t 29) (.c (.int .i64 128))⟩, ⟨some 31, none, .pickb (.t 26) (.c (.bool true)) (.t 30)⟩])
 (.cond (.t 31) (.seq (.region [⟨some 4, none, .mov (.c (.bool false))⟩])
    .ret)
    .skip))
 (.seq (.draw [3000000, 4000002, 4000003] [⟨some 32, none, .mkmap 0 .str⟩, ⟨some 33, none, .fldA 3 1 false (.t 3)⟩, ⟨some 34, none, .load 1 false (.t 33)⟩, ⟨some 35, none, .len false (.t 34)⟩, ⟨some 36, none, .mks 1 3 1 8 (.int .i64 0) (.t 35) (.t 35)⟩, ⟨some 5, none, .mov (.t 32)⟩, ⟨some 6, none, .mov (.t 36)⟩])
 (.seq (.seq (.region [⟨some 37, none, .fldA 3 1 false (.t 3)⟩, ⟨some 38, none, .load 1 false (.t 37)⟩, ⟨some 39, none, .len false (.t 38)⟩, ⟨some 40, none, .mov (.c (.int .i64 0))⟩])
 (.block 0 (.loop (.seq (.region [⟨some 41, none, .bin false .lss (.t 40) (.t 39)⟩])
 (.seq (.cond (.t 41) .skip
 (.exit 0))
 (.seq (.block 1 (.seq (.region [⟨some 42, none, .idxA 1 (.t 38) (.t 40)⟩, ⟨some 43, none, .load 1 false (.t 42)⟩, ⟨some 8, none, .mov (.t 43)⟩])
 (.seq (.region [⟨some 44, none, .mov (.t 8)⟩, ⟨some 45, none, .call i_lex_IsName [.t 44]⟩, ⟨some 46, none, .un .not (.t 45)⟩, ⟨some 47, none, .mov (.t 46)⟩, ⟨some 48, some (47, false), .mov (.t 5)⟩, ⟨some 49, some (47, false), .mov (.t 8)⟩, ⟨some 50, some (47, false), .call i_table_named_add [.t 48, .t 49]⟩, ⟨some 51, some (47, false), .un .not (.t 50)⟩, ⟨some 52, none, .pickb (.t 47) (.c (.bool true)) (.t 51)⟩])
 (.cond (.t 52) (.seq (.region [⟨some 4, none, .mov (.c (.bool false))⟩])
    .ret)
    .skip))))
 (.region [⟨some 53, none, .bin false .add (.t 40) (.c (.int .i64 1))⟩, ⟨some 40, none, .mov (.t 53)⟩])))))))
 (.seq (.seq (.region [⟨some 54, none, .fldA 5 1 false (.t 3)⟩, ⟨some 55, none, .load 1 false (.t 54)⟩, ⟨some 56, none, .len false (.t 55)⟩, ⟨some 57, none, .mov (.c (.int .i64 0))⟩])
 (.block 2 (.loop (.seq (.region [⟨some 58, none, .bin false .lss (.t 57) (.t 56)⟩])
 (.seq (.cond (.t 58) .skip
 (.exit 2))
 (.seq (.block 3 (.seq (.region [⟨some 59, none, .mov (.t 57)⟩, ⟨some 60, none, .idxA 2 (.t 55) (.t 57)⟩, ⟨some 61, none, .load 2 true (.t 60)⟩, ⟨some 10, none, .alloc 2 [.int .i64 0, .int .i64 0]⟩, ⟨some 9, none, .mov (.t 59)⟩, ⟨none, none, .store 2 (.t 10) (.t 61)⟩])
 (.seq (.draw [1000001, 1000005, 1000010, 1000012, 1000020, 1000022, 1000025, 1000027, 4000000, 4000001, 4000002, 4000003] [⟨some 62, none, .fldA 0 1 false (.t 10)⟩, ⟨some 63, none, .load 1 false (.t 62)⟩, ⟨some 64, none, .bin false .lss (.t 63) (.c (.int .i64 1))⟩, ⟨some 65, none, .mov (.t 64)⟩, ⟨some 66, some (65, false), .fldA 1 1 false (.t 10)⟩, ⟨some 67, some (65, false), .load 1 false (.t 66)⟩, ⟨some 68, some (65, false), .bin false .gtr (.t 67) (.c (.int .i64 536870911))⟩, ⟨some 69, none, .pickb (.t 65) (.c (.bool true)) (.t 68)⟩, ⟨some 70, none, .mov (.t 69)⟩, ⟨some 71, some (70, false), .fldA 0 1 false (.t 10)⟩, ⟨some 72, some (70, false), .load 1 false (.t 71)⟩, ⟨some 73, some (70, false), .fldA 1 1 false (.t 10)⟩, ⟨some 74, some (70, false), .load 1 false (.t 73)⟩, ⟨some 75, some (70, false), .bin false .gtr (.t 72) (.t 74)⟩, ⟨some 76, none, .pickb (.t 70) (.c (.bool true)) (.t 75)⟩, ⟨some 77, none, .mov (.t 76)⟩, ⟨some 78, some (77, false), .mov (.t 9)⟩, ⟨some 79, some (77, false), .bin false .gtr (.t 78) (.c (.int .i64 0))⟩, ⟨some 80, some (77, false), .mov (.t 79)⟩, ⟨some 81, some (80, true), .fldA 0 1 false (.t 10)⟩, ⟨some 82, some (80, true), .load 1 false (.t 81)⟩, ⟨some 83, some (80, true), .fldA 5 1 false (.t 3)⟩, ⟨some 84, some (80, true), .load 1 false (.t 83)⟩, ⟨some 85, some (80, true), .mov (.t 9)⟩, ⟨some 86, some (80, true), .bin false .sub (.t 85) (.c (.int .i64 1))⟩, ⟨some 87, some (80, true), .idxA 2 (.t 84) (.t 86)⟩, ⟨some 88, some (80, true), .fldA 1 1 false (.t 87)⟩, ⟨some 89, some (80, true), .load 1 false (.t 88)⟩, ⟨some 90, some (80, true), .bin false .leq (.t 82) (.t 89)⟩, ⟨some 91, some (77, false), .pickb (.t 80) (.t 90) (.c (.bool false))⟩, ⟨some 92, none, .pickb (.t 77) (.c (.bool true)) (.t 91)⟩])
 (.cond (.t 92) (.seq (.region [⟨some 4, none, .mov (.c (.bool false))⟩])
    .ret)
    .skip))))
 (.region [⟨some 93, none, .bin false .add (.t 57) (.c (.int .i64 1))⟩, ⟨some 57, none, .mov (.t 93)⟩])))))))
 (.seq (.region [⟨some 11, none, .mov (.c (.int .i64 0))⟩])
 (.seq (.seq (.region [⟨some 94, none, .fldA 2 1 false (.t 3)⟩, ⟨some 95, none, .load 1 false (.t 94)⟩, ⟨some 96, none, .len false (.t 95)⟩, ⟨some 97, none, .mov (.c (.int .i64 0))⟩])
 (.block 4 (.loop (.seq (.region [⟨some 98, none, .bin false .lss (.t 97) (.t 96)⟩])
 (.seq (.cond (.t 98) .skip
 (.exit 4))
 (.seq (.block 5 (.seq (.region [⟨some 99, none, .idxA 7 (.t 95) (.t 97)⟩, ⟨some 100, none, .load 7 true (.t 99)⟩, ⟨some 13, none, .alloc 3 [.str ⟨#[]⟩, .int .i64 0, .int .i64 0, .int .i64 0, .int .i64 0, .int .i64 0, .int .i64 0]⟩, ⟨none, none, .store 7 (.t 13) (.t 100)⟩])
 (.seq (.seq (.region [⟨some 101, none, .fldA 0 1 false (.t 13)⟩, ⟨some 102, none, .load 1 false (.t 101)⟩, ⟨some 103, none, .call i_lex_IsName [.t 102]⟩, ⟨some 104, none, .un .not (.t 103)⟩, ⟨some 105, none, .mov (.t 104)⟩, ⟨some 106, some (105, false), .mov (.t 5)⟩, ⟨some 107, some (105, false), .fldA 0 1 false (.t 13)⟩, ⟨some 108, some (105, false), .load 1 false (.t 107)⟩, ⟨some 109, some (105, false), .call i_table_named_add [.t 106, .t 108]⟩, ⟨some 110, some (105, false), .un .not (.t 109)⟩, ⟨some 111, none, .pickb (.t 105) (.c (.bool true)) (.t 110)⟩, ⟨some 112, none, .mov (.t 111)⟩, ⟨some 113, some (112, false), .fldA 1 1 false (.t 13)⟩, ⟨some 114, some (112, false), .load 1 false (.t 113)⟩, ⟨some 115, some (112, false), .mov (.t 11)⟩, ⟨some 116, some (112, false), .bin false .leq (.t 114) (.t 115)⟩, ⟨some 117, none, .pickb (.t 112) (.c (.bool true)) (.t 116)⟩, ⟨some 118, none, .mov (.t 117)⟩, ⟨some 119, some (118, false), .fldA 1 1 false (.t 13)⟩, ⟨some 120, some (118, false), .load 1 false (.t 119)⟩, ⟨some 121, some (118, false), .bin false .gtr (.t 120) (.c (.int .i64 536870911))⟩, ⟨some 122, none, .pickb (.t 118) (.c (.bool true)) (.t 121)⟩, ⟨some 123, none, .mov (.t 122)⟩, ⟨some 124, some (123, false), .load 6 true (.t 3)⟩, ⟨some 125, some (123, false), .fldA 1 1 false (.t 13)⟩, ⟨some 126, some (123, false), .load 1 false (.t 125)⟩, ⟨some 127, some (123, false), .call i_table_reserved [.t 124, .t 126]⟩, ⟨some 128, none, .pickb (.t 123) (.c (.bool true)) (.t 127)⟩, ⟨some 129, none, .mov (.t 128)⟩, ⟨some 130, some (129, false), .load 1 true (.t 2)⟩, ⟨some 131, some (129, false), .load 6 true (.t 3)⟩, ⟨some 132, some (129, false), .load 7 true (.t 13)⟩, ⟨some 133, some (129, false), .call i_table_goodField [.t 130, .t 131, .t 132]⟩, ⟨some 134, some (129, false), .un .not (.t 133)⟩, ⟨some 135, none, .pickb (.t 129) (.c (.bool true)) (.t 134)⟩])
 (.cond (.t 135) (.seq (.region [⟨some 4, none, .mov (.c (.bool false))⟩])
    .ret)
    .skip))
 (.seq (.region [⟨some 136, none, .fldA 1 1 false (.t 13)⟩, ⟨some 137, none, .load 1 false (.t 136)⟩, ⟨some 11, none, .mov (.t 137)⟩])
 (.seq (.region [⟨some 138, none, .fldA 4 1 false (.t 13)⟩, ⟨some 139, none, .load 1 false (.t 138)⟩, ⟨some 140, none, .bin false .eql (.t 139) (.c (.int .i64 4))⟩])
 (.cond (.t 140) (.region [⟨some 141, none, .mov (.t 6)⟩, ⟨some 142, none, .fldA 5 1 false (.t 13)⟩, ⟨some 143, none, .load 1 false (.t 142)⟩, ⟨some 144, none, .idxA 1 (.t 141) (.t 143)⟩, ⟨some 145, none, .load 1 false (.t 144)⟩, ⟨some 146, none, .bin false .add (.t 145) (.c (.int .i64 1))⟩, ⟨some 147, none, .idxA 1 (.t 141) (.t 143)⟩, ⟨none, none, .store 1 (.t 147) (.t 146)⟩])
    .skip))))))
 (.region [⟨some 148, none, .bin false .add (.t 97) (.c (.int .i64 1))⟩, ⟨some 97, none, .mov (.t 148)⟩])))))))
 (.seq (.seq (.region [⟨some 149, none, .mov (.t 6)⟩, ⟨some 150, none, .len false (.t 149)⟩, ⟨some 151, none, .mov (.c (.int .i64 0))⟩])
 (.block 6 (.loop (.seq (.region [⟨some 152, none, .bin false .lss (.t 151) (.t 150)⟩])
 (.seq (.cond (.t 152) .skip
 (.exit 6))
 (.seq (.block 7 (.seq (.region [⟨some 153, none, .idxA 1 (.t 149) (.t 151)⟩, ⟨some 154, none, .load 1 false (.t 153)⟩, ⟨some 15, none, .mov (.t 154)⟩])
 (.seq (.region [⟨some 155, none, .mov (.t 15)⟩, ⟨some 156, none, .bin false .eql (.t 155) (.c (.int .i64 0))⟩])
 (.cond (.t 156) (.seq (.region [⟨some 4, none, .mov (.c (.bool false))⟩])
    .ret)
    .skip))))
 (.region [⟨some 157, none, .bin false .add (.t 151) (.c (.int .i64 1))⟩, ⟨some 151, none, .mov (.t 157)⟩])))))))
 (.seq (.region [⟨some 4, none, .mov (.c (.bool true))⟩])
    .ret))))))))), [.tmp 4]⟩
theorem T_table_goodMessage : trFn Tryd.prog [(3, [0, 0, 0, 0, 1, 0, 0]), (12, [0, 0, 0, 3, 0, 0]), (19, [0, 0, 4, 0]), (1000003, [3000000, 4000002, 4000003]), (1000013, [1000001, 1000005, 1000010, 1000012, 1000020, 1000022, 1000025, 1000027, 4000000, 4000001, 4000002, 4000003])] Tryd.f44 = some A_table_goodMessage := by kernel_rfl
theorem L_table_goodMessage : 2 ≤ Tryd.f44.ntmps := by decide

def A_table_At : AFn := ⟨(.seq (.region [⟨some 2, none, .boxI (.t 0)⟩, ⟨some 4, none, .alloc 0 [.str ⟨#[]⟩, .int .i64 0, .int .i64 0, .int .i64 0, .int .i64 0, .int .i64 0, .int .i64 0]⟩, ⟨some 5, none, .mov (.c (.bool false))⟩])
 (.seq (.draw [1000001, 1000002, 4000000] [⟨some 9, none, .fldA 2 1 false (.t 2)⟩, ⟨some 10, none, .load 1 false (.t 9)⟩, ⟨some 11, none, .len false (.t 10)⟩, ⟨some 6, none, .mov (.c (.int .i64 0))⟩, ⟨some 7, none, .mov (.t 11)⟩])
 (.seq (.block 0 (.loop (.seq (.seq (.region [⟨some 12, none, .mov (.t 6)⟩, ⟨some 13, none, .mov (.t 7)⟩, ⟨some 14, none, .bin false .lss (.t 12) (.t 13)⟩])
 (.cond (.t 14) .skip
 (.exit 0)))
 (.block 1 (.seq (.region [⟨some 15, none, .mov (.t 6)⟩, ⟨some 16, none, .mov (.t 7)⟩, ⟨some 17, none, .bin false .add (.t 15) (.t 16)⟩, ⟨some 18, none, .bin false .quo (.t 17) (.c (.int .i64 2))⟩, ⟨some 8, none, .mov (.t 18)⟩])
 (.seq (.region [⟨some 19, none, .fldA 2 1 false (.t 2)⟩, ⟨some 20, none, .load 1 false (.t 19)⟩, ⟨some 21, none, .mov (.t 8)⟩, ⟨some 22, none, .idxA 7 (.t 20) (.t 21)⟩, ⟨some 23, none, .fldA 1 1 false (.t 22)⟩, ⟨some 24, none, .load 1 false (.t 23)⟩, ⟨some 25, none, .mov (.t 1)⟩, ⟨some 26, none, .bin false .lss (.t 24) (.t 25)⟩])
 (.cond (.t 26) (.region [⟨some 27, none, .mov (.t 8)⟩, ⟨some 28, none, .bin false .add (.t 27) (.c (.int .i64 1))⟩, ⟨some 6, none, .mov (.t 28)⟩])
 (.region [⟨some 29, none, .mov (.t 8)⟩, ⟨some 7, none, .mov (.t 29)⟩]))))))))
 (.seq (.seq (.region [⟨some 30, none, .mov (.t 6)⟩, ⟨some 31, none, .fldA 2 1 false (.t 2)⟩, ⟨some 32, none, .load 1 false (.t 31)⟩, ⟨some 33, none, .len false (.t 32)⟩, ⟨some 34, none, .bin false .eql (.t 30) (.t 33)⟩, ⟨some 35, none, .mov (.t 34)⟩, ⟨some 36, some (35, false), .fldA 2 1 false (.t 2)⟩, ⟨some 37, some (35, false), .load 1 false (.t 36)⟩, ⟨some 38, some (35, false), .mov (.t 6)⟩, ⟨some 39, some (35, false), .idxA 7 (.t 37) (.t 38)⟩, ⟨some 40, some (35, false), .fldA 1 1 false (.t 39)⟩, ⟨some 41, some (35, false), .load 1 false (.t 40)⟩, ⟨some 42, some (35, false), .mov (.t 1)⟩, ⟨some 43, some (35, false), .bin false .neq (.t 41) (.t 42)⟩, ⟨some 44, none, .pickb (.t 35) (.c (.bool true)) (.t 43)⟩])
 (.cond (.t 44) (.seq (.region [⟨some 45, none, .build [.str ⟨#[]⟩, .int .i64 0, .int .i64 0, .int .i64 0, .int .i64 0, .int .i64 0, .int .i64 0] []⟩, ⟨none, none, .store 7 (.t 4) (.t 45)⟩, ⟨some 5, none, .mov (.c (.bool false))⟩])
    .ret)
    .skip))
 (.seq (.region [⟨some 46, none, .fldA 2 1 false (.t 2)⟩, ⟨some 47, none, .load 1 false (.t 46)⟩, ⟨some 48, none, .mov (.t 6)⟩, ⟨some 49, none, .idxA 7 (.t 47) (.t 48)⟩, ⟨some 50, none, .load 7 true (.t 49)⟩, ⟨none, none, .store 7 (.t 4) (.t 50)⟩, ⟨some 5, none, .mov (.c (.bool true))⟩])
    .ret))))), [.cell 4 7 true, .tmp 5]⟩
theorem T_table_At : trFn Tryd.prog [(0, [0, 1, 0]), (1000001, [1000001, 1000002, 4000000])] Tryd.f46 = some A_table_At := by kernel_rfl
theorem L_table_At : 2 ≤ Tryd.f46.ntmps := by decide

def A_cartoucheref3_Numeric : AFn := ⟨(.seq (.region [⟨some 2, none, .mov (.c (.bool false))⟩])
 (.seq (.region [⟨some 3, none, .mov (.t 0)⟩, ⟨some 4, none, .call i_cartoucheref3_Wire [.t 3]⟩, ⟨some 5, none, .bin false .geq (.t 4) (.c (.int .i64 0))⟩, ⟨some 6, none, .mov (.t 5)⟩, ⟨some 7, some (6, true), .mov (.t 0)⟩, ⟨some 8, some (6, true), .call i_cartoucheref3_Wire [.t 7]⟩, ⟨some 9, some (6, true), .bin false .neq (.t 8) (.c (.int .i64 2))⟩, ⟨some 10, none, .pickb (.t 6) (.t 9) (.c (.bool false))⟩, ⟨some 2, none, .mov (.t 10)⟩])
    .ret)), [.tmp 2]⟩
theorem T_cartoucheref3_Numeric : trFn Tryd.prog [] Tryd.f49 = some A_cartoucheref3_Numeric := by kernel_rfl
theorem L_cartoucheref3_Numeric : 1 ≤ Tryd.f49.ntmps := by decide

def A_table_sort : AFn := ⟨(.seq (.region [⟨some 3, none, .boxI (.t 0)⟩, ⟨some 6, none, .mov (.c (.bool false))⟩])
 (.seq (.region [⟨some 7, none, .mov (.t 1)⟩, ⟨some 8, none, .bin false .geq (.t 7) (.c (.int .i64 0))⟩, ⟨some 9, none, .mov (.t 8)⟩, ⟨some 10, some (9, true), .mov (.t 1)⟩, ⟨some 11, some (9, true), .fldA 0 1 false (.t 3)⟩, ⟨some 12, some (9, true), .load 1 false (.t 11)⟩, ⟨some 13, some (9, true), .len false (.t 12)⟩, ⟨some 14, some (9, true), .bin false .lss (.t 10) (.t 13)⟩, ⟨some 15, none, .pickb (.t 9) (.t 14) (.c (.bool false))⟩, ⟨some 16, none, .mov (.t 15)⟩, ⟨some 17, some (16, true), .fldA 0 1 false (.t 3)⟩, ⟨some 18, some (16, true), .load 1 false (.t 17)⟩, ⟨some 19, some (16, true), .mov (.t 1)⟩, ⟨some 20, some (16, true), .idxA 6 (.t 18) (.t 19)⟩, ⟨some 21, some (16, true), .fldA 1 1 false (.t 20)⟩, ⟨some 22, some (16, true), .load 1 false (.t 21)⟩, ⟨some 23, some (16, true), .mov (.t 2)⟩, ⟨some 24, some (16, true), .bin true .eql (.t 22) (.t 23)⟩, ⟨some 25, none, .pickb (.t 16) (.t 24) (.c (.bool false))⟩, ⟨some 6, none, .mov (.t 25)⟩])
    .ret)), [.tmp 6]⟩
theorem T_table_sort : trFn Tryd.prog [] Tryd.f50 = some A_table_sort := by kernel_rfl
theorem L_table_sort : 3 ≤ Tryd.f50.ntmps := by decide

def A_table_SymbolAt : AFn := ⟨(.seq (.region [⟨some 2, none, .boxI (.t 0)⟩, ⟨some 4, none, .mov (.c (.str ⟨#[]⟩))⟩, ⟨some 5, none, .mov (.c (.bool false))⟩])
 (.seq (.seq (.region [⟨some 8, none, .fldA 4 1 false (.t 2)⟩, ⟨some 9, none, .load 1 false (.t 8)⟩, ⟨some 10, none, .len false (.t 9)⟩, ⟨some 11, none, .mov (.c (.int .i64 0))⟩])
 (.block 0 (.loop (.seq (.region [⟨some 12, none, .bin false .lss (.t 11) (.t 10)⟩])
 (.seq (.cond (.t 12) .skip
 (.exit 0))
 (.seq (.block 1 (.seq (.region [⟨some 13, none, .idxA 2 (.t 9) (.t 11)⟩, ⟨some 14, none, .load 2 true (.t 13)⟩, ⟨some 7, none, .alloc 0 [.str ⟨#[]⟩, .int .i64 0]⟩, ⟨none, none, .store 2 (.t 7) (.t 14)⟩])
 (.seq (.region [⟨some 15, none, .fldA 1 1 false (.t 7)⟩, ⟨some 16, none, .load 1 false (.t 15)⟩, ⟨some 17, none, .mov (.t 1)⟩, ⟨some 18, none, .bin false .eql (.t 16) (.t 17)⟩])
 (.cond (.t 18) (.seq (.region [⟨some 19, none, .fldA 0 1 false (.t 7)⟩, ⟨some 20, none, .load 1 false (.t 19)⟩, ⟨some 4, none, .mov (.t 20)⟩, ⟨some 5, none, .mov (.c (.bool true))⟩])
    .ret)
    .skip))))
 (.region [⟨some 21, none, .bin false .add (.t 11) (.c (.int .i64 1))⟩, ⟨some 11, none, .mov (.t 21)⟩])))))))
 (.seq (.region [⟨some 4, none, .mov (.c (.str ⟨#[]⟩))⟩, ⟨some 5, none, .mov (.c (.bool false))⟩])
    .ret))), [.tmp 4, .tmp 5]⟩
theorem T_table_SymbolAt : trFn Tryd.prog [(3, [0, 0, 1, 0])] Tryd.f51 = some A_table_SymbolAt := by kernel_rfl
theorem L_table_SymbolAt : 2 ≤ Tryd.f51.ntmps := by decide

def A_cartoucheref7_parts : AFn := ⟨(.seq (.region [⟨some 2, none, .mov (.c (.nil))⟩])
 (.seq (.region [⟨some 3, none, .mov (.c (.nil))⟩])
 (.seq (.region [⟨some 4, none, .mov (.c (.int .i64 0))⟩])
 (.seq (.seq (.region [⟨some 5, none, .mov (.c (.int .i64 0))⟩])
 (.block 0 (.loop (.seq (.seq (.region [⟨some 6, none, .mov (.t 5)⟩, ⟨some 7, none, .mov (.t 0)⟩, ⟨some 8, none, .len true (.t 7)⟩, ⟨some 9, none, .bin false .leq (.t 6) (.t 8)⟩])
 (.cond (.t 9) .skip
 (.exit 0)))
 (.seq (.block 1 (.seq (.region [⟨some 12, none, .mov (.t 5)⟩, ⟨some 13, none, .mov (.t 0)⟩, ⟨some 14, none, .len true (.t 13)⟩, ⟨some 15, none, .bin false .eql (.t 12) (.t 14)⟩, ⟨some 16, none, .mov (.t 15)⟩, ⟨some 17, some (16, false), .mov (.t 0)⟩, ⟨some 18, some (16, false), .mov (.t 5)⟩, ⟨some 19, some (16, false), .idxS (.t 17) (.t 18)⟩, ⟨some 20, some (16, false), .bin false .eql (.t 19) (.c (.int .u8 46))⟩, ⟨some 21, none, .pickb (.t 16) (.c (.bool true)) (.t 20)⟩])
 (.cond (.t 21) (.seq (.region [⟨some 22, none, .mov (.t 3)⟩, ⟨some 23, none, .mov (.t 0)⟩, ⟨some 24, none, .mov (.t 4)⟩, ⟨some 25, none, .mov (.t 5)⟩, ⟨some 26, none, .slcS (.t 23) (some (.t 24)) (some (.t 25))⟩, ⟨some 27, none, .bslice 1 [.t 26]⟩, ⟨some 28, none, .app 0 9 1 16 (.t 22) (.t 27)⟩, ⟨some 3, none, .mov (.t 28)⟩])
 (.region [⟨some 29, none, .mov (.t 5)⟩, ⟨some 30, none, .bin false .add (.t 29) (.c (.int .i64 1))⟩, ⟨some 4, none, .mov (.t 30)⟩]))
    .skip)))
 (.region [⟨some 10, none, .mov (.t 5)⟩, ⟨some 11, none, .bin false .add (.t 10) (.c (.int .i64 1))⟩, ⟨some 5, none, .mov (.t 11)⟩]))))))
 (.seq (.region [⟨some 31, none, .mov (.t 3)⟩, ⟨some 2, none, .mov (.t 31)⟩])
    .ret))))), [.tmp 2]⟩
theorem T_cartoucheref7_parts : trFn Tryd.prog [] Tryd.f62 = some A_cartoucheref7_parts := by kernel_rfl
theorem L_cartoucheref7_parts : 1 ≤ Tryd.f62.ntmps := by decide

def A_cartoucheref4_IsName : AFn := ⟨(.seq (.region [⟨some 2, none, .mov (.c (.bool false))⟩])
 (.seq (.seq (.region [⟨some 4, none, .mov (.t 0)⟩, ⟨some 5, none, .len true (.t 4)⟩, ⟨some 6, none, .bin false .eql (.t 5) (.c (.int .i64 0))⟩, ⟨some 7, none, .mov (.t 6)⟩, ⟨some 8, some (7, false), .mov (.t 0)⟩, ⟨some 9, some (7, false), .idxS (.t 8) (.c (.int .i64 0))⟩, ⟨some 10, some (7, false), .call i_cartoucheref4_letter [.t 9]⟩, ⟨some 11, some (7, false), .un .not (.t 10)⟩, ⟨some 12, none, .pickb (.t 7) (.c (.bool true)) (.t 11)⟩])
 (.cond (.t 12) (.seq (.region [⟨some 2, none, .mov (.c (.bool false))⟩])
    .ret)
    .skip))
 (.seq (.seq (.region [⟨some 3, none, .mov (.c (.int .i64 0))⟩])
 (.block 0 (.loop (.seq (.seq (.region [⟨some 13, none, .mov (.t 3)⟩, ⟨some 14, none, .mov (.t 0)⟩, ⟨some 15, none, .len true (.t 14)⟩, ⟨some 16, none, .bin false .lss (.t 13) (.t 15)⟩])
 (.cond (.t 16) .skip
 (.exit 0)))
 (.seq (.block 1 (.seq (.region [⟨some 19, none, .mov (.t 0)⟩, ⟨some 20, none, .mov (.t 3)⟩, ⟨some 21, none, .idxS (.t 19) (.t 20)⟩, ⟨some 22, none, .call i_cartoucheref4_letter [.t 21]⟩, ⟨some 23, none, .un .not (.t 22)⟩, ⟨some 24, none, .mov (.t 23)⟩, ⟨some 25, some (24, true), .mov (.t 0)⟩, ⟨some 26, some (24, true), .mov (.t 3)⟩, ⟨some 27, some (24, true), .idxS (.t 25) (.t 26)⟩, ⟨some 28, some (24, true), .call i_cartoucheref4_digit [.t 27]⟩, ⟨some 29, some (24, true), .un .not (.t 28)⟩, ⟨some 30, none, .pickb (.t 24) (.t 29) (.c (.bool false))⟩])
 (.cond (.t 30) (.seq (.region [⟨some 2, none, .mov (.c (.bool false))⟩])
    .ret)
    .skip)))
 (.region [⟨some 17, none, .mov (.t 3)⟩, ⟨some 18, none, .bin false .add (.t 17) (.c (.int .i64 1))⟩, ⟨some 3, none, .mov (.t 18)⟩]))))))
 (.seq (.region [⟨some 2, none, .mov (.c (.bool true))⟩])
    .ret)))), [.tmp 2]⟩
theorem T_cartoucheref4_IsName : trFn Tryd.prog [] Tryd.f63 = some A_cartoucheref4_IsName := by kernel_rfl
theorem L_cartoucheref4_IsName : 1 ≤ Tryd.f63.ntmps := by decide

def A_cartoucheref7_field : AFn := ⟨(.seq (.region [⟨some 3, none, .boxI (.t 0)⟩, ⟨some 4, none, .boxI (.t 1)⟩, ⟨some 5, none, .boxI (.t 2)⟩, ⟨some 6, none, .mov (.c (.bool false))⟩])
 (.seq (.seq (.region [⟨some 7, none, .fldA 1 1 false (.t 5)⟩, ⟨some 8, none, .load 1 false (.t 7)⟩, ⟨some 9, none, .bin false .lss (.t 8) (.c (.int .i64 1))⟩, ⟨some 10, none, .mov (.t 9)⟩, ⟨some 11, some (10, false), .fldA 1 1 false (.t 5)⟩, ⟨some 12, some (10, false), .load 1 false (.t 11)⟩, ⟨some 13, some (10, false), .bin false .gtr (.t 12) (.c (.int .i64 536870911))⟩, ⟨some 14, none, .pickb (.t 10) (.c (.bool true)) (.t 13)⟩, ⟨some 15, none, .mov (.t 14)⟩, ⟨some 16, some (15, false), .fldA 2 1 false (.t 5)⟩, ⟨some 17, some (15, false), .load 1 false (.t 16)⟩, ⟨some 18, some (15, false), .bin false .lss (.t 17) (.c (.int .i64 1))⟩, ⟨some 19, none, .pickb (.t 15) (.c (.bool true)) (.t 18)⟩, ⟨some 20, none, .mov (.t 19)⟩, ⟨some 21, some (20, false), .fldA 2 1 false (.t 5)⟩, ⟨some 22, some (20, false), .load 1 false (.t 21)⟩, ⟨some 23, some (20, false), .bin false .gtr (.t 22) (.c (.int .i64 17))⟩, ⟨some 24, none, .pickb (.t 20) (.c (.bool true)) (.t 23)⟩, ⟨some 25, none, .mov (.t 24)⟩, ⟨some 26, some (25, false), .fldA 4 1 false (.t 5)⟩, ⟨some 27, some (25, false), .load 1 false (.t 26)⟩, ⟨some 28, some (25, false), .bin false .lss (.t 27) (.c (.int .i64 0))⟩, ⟨some 29, none, .pickb (.t 25) (.c (.bool true)) (.t 28)⟩, ⟨some 30, none, .mov (.t 29)⟩, ⟨some 31, some (30, false), .fldA 4 1 false (.t 5)⟩, ⟨some 32, some (30, false), .load 1 false (.t 31)⟩, ⟨some 33, some (30, false), .bin false .gtr (.t 32) (.c (.int .i64 5))⟩, ⟨some 34, none, .pickb (.t 30) (.c (.bool true)) (.t 33)⟩])
 (.cond (.t 34) (.seq (.region [⟨some 6, none, .mov (.c (.bool false))⟩])
    .ret)
    .skip))
 (.seq (.seq (.region [⟨some 35, none, .fldA 2 1 false (.t 5)⟩, ⟨some 36, none, .load 1 false (.t 35)⟩, ⟨some 37, none, .bin false .geq (.t 36) (.c (.int .i64 16))⟩])
 (.cond (.t 37) (.seq (.draw [1000001, 1000005, 1000007, 1000008, 1000013, 1000015, 1000016, 1000018, 1000020] [⟨some 38, none, .fldA 3 1 false (.t 5)⟩, ⟨some 39, none, .load 1 false (.t 38)⟩, ⟨some 40, none, .bin false .lss (.t 39) (.c (.int .i64 0))⟩, ⟨some 41, none, .mov (.t 40)⟩, ⟨some 42, some (41, false), .fldA 3 1 false (.t 5)⟩, ⟨some 43, some (41, false), .load 1 false (.t 42)⟩, ⟨some 44, some (41, false), .fldA 0 1 false (.t 3)⟩, ⟨some 45, some (41, false), .load 1 false (.t 44)⟩, ⟨some 46, some (41, false), .len false (.t 45)⟩, ⟨some 47, some (41, false), .bin false .geq (.t 43) (.t 46)⟩, ⟨some 48, none, .pickb (.t 41) (.c (.bool true)) (.t 47)⟩, ⟨some 49, none, .mov (.t 48)⟩, ⟨some 50, some (49, false), .fldA 0 1 false (.t 3)⟩, ⟨some 51, some (49, false), .load 1 false (.t 50)⟩, ⟨some 52, some (49, false), .fldA 3 1 false (.t 5)⟩, ⟨some 53, some (49, false), .load 1 false (.t 52)⟩, ⟨some 54, some (49, false), .idxA 6 (.t 51) (.t 53)⟩, ⟨some 55, some (49, false), .fldA 1 1 false (.t 54)⟩, ⟨some 56, some (49, false), .load 1 false (.t 55)⟩, ⟨some 57, some (49, false), .fldA 2 1 false (.t 5)⟩, ⟨some 58, some (49, false), .load 1 false (.t 57)⟩, ⟨some 59, some (49, false), .bin false .eql (.t 58) (.c (.int .i64 16))⟩, ⟨some 60, some (49, false), .bin true .neq (.t 56) (.t 59)⟩, ⟨some 61, none, .pickb (.t 49) (.c (.bool true)) (.t 60)⟩])
 (.cond (.t 61) (.seq (.region [⟨some 6, none, .mov (.c (.bool false))⟩])
    .ret)
    .skip))
 (.seq (.region [⟨some 62, none, .fldA 3 1 false (.t 5)⟩, ⟨some 63, none, .load 1 false (.t 62)⟩, ⟨some 64, none, .bin false .neq (.t 63) (.c (.int .i64 0))⟩])
 (.cond (.t 64) (.seq (.region [⟨some 6, none, .mov (.c (.bool false))⟩])
    .ret)
    .skip))))
 (.seq (.seq (.region [⟨some 65, none, .fldA 4 1 false (.t 5)⟩, ⟨some 66, none, .load 1 false (.t 65)⟩, ⟨some 67, none, .bin false .eql (.t 66) (.c (.int .i64 0))⟩, ⟨some 68, none, .mov (.t 67)⟩, ⟨some 69, some (68, true), .fldA 2 1 false (.t 5)⟩, ⟨some 70, some (68, true), .load 1 false (.t 69)⟩, ⟨some 71, some (68, true), .bin false .eql (.t 70) (.c (.int .i64 17))⟩, ⟨some 72, none, .pickb (.t 68) (.t 71) (.c (.bool false))⟩, ⟨some 73, none, .mov (.t 72)⟩, ⟨some 74, some (73, false), .fldA 4 1 false (.t 5)⟩, ⟨some 75, some (73, false), .load 1 false (.t 74)⟩, ⟨some 76, some (73, false), .bin false .eql (.t 75) (.c (.int .i64 3))⟩, ⟨some 77, some (73, false), .mov (.t 76)⟩, ⟨some 78, some (77, true), .fldA 2 1 false (.t 5)⟩, ⟨some 79, some (77, true), .load 1 false (.t 78)⟩, ⟨some 80, some (77, true), .call i_cartoucheref3_Numeric [.t 79]⟩, ⟨some 81, some (77, true), .un .not (.t 80)⟩, ⟨some 82, some (73, false), .pickb (.t 77) (.t 81) (.c (.bool false))⟩, ⟨some 83, none, .pickb (.t 73) (.c (.bool true)) (.t 82)⟩])
 (.cond (.t 83) (.seq (.region [⟨some 6, none, .mov (.c (.bool false))⟩])
    .ret)
    .skip))
 (.seq (.seq (.region [⟨some 84, none, .fldA 4 1 false (.t 5)⟩, ⟨some 85, none, .load 1 false (.t 84)⟩, ⟨some 86, none, .bin false .eql (.t 85) (.c (.int .i64 4))⟩])
 (.cond (.t 86) (.seq (.region [⟨some 87, none, .fldA 5 1 false (.t 5)⟩, ⟨some 88, none, .load 1 false (.t 87)⟩, ⟨some 89, none, .bin false .lss (.t 88) (.c (.int .i64 0))⟩, ⟨some 90, none, .mov (.t 89)⟩, ⟨some 91, some (90, false), .fldA 5 1 false (.t 5)⟩, ⟨some 92, some (90, false), .load 1 false (.t 91)⟩, ⟨some 93, some (90, false), .fldA 3 1 false (.t 4)⟩, ⟨some 94, some (90, false), .load 1 false (.t 93)⟩, ⟨some 95, some (90, false), .len false (.t 94)⟩, ⟨some 96, some (90, false), .bin false .geq (.t 92) (.t 95)⟩, ⟨some 97, none, .pickb (.t 90) (.c (.bool true)) (.t 96)⟩])
 (.cond (.t 97) (.seq (.region [⟨some 6, none, .mov (.c (.bool false))⟩])
    .ret)
    .skip))
 (.seq (.region [⟨some 98, none, .fldA 5 1 false (.t 5)⟩, ⟨some 99, none, .load 1 false (.t 98)⟩, ⟨some 100, none, .bin false .neq (.t 99) (.c (.int .i64 0))⟩])
 (.cond (.t 100) (.seq (.region [⟨some 6, none, .mov (.c (.bool false))⟩])
    .ret)
    .skip))))
 (.seq (.seq (.region [⟨some 101, none, .fldA 4 1 false (.t 5)⟩, ⟨some 102, none, .load 1 false (.t 101)⟩, ⟨some 103, none, .bin false .eql (.t 102) (.c (.int .i64 5))⟩])
 (.cond (.t 103) (.seq (.region [⟨some 104, none, .fldA 6 1 false (.t 5)⟩, ⟨some 105, none, .load 1 false (.t 104)⟩, ⟨some 106, none, .call i_cartoucheref3_IsKey [.t 105]⟩, ⟨some 6, none, .mov (.t 106)⟩])
    .ret)
    .skip))
 (.seq (.region [⟨some 107, none, .fldA 6 1 false (.t 5)⟩, ⟨some 108, none, .load 1 false (.t 107)⟩, ⟨some 109, none, .bin false .eql (.t 108) (.c (.int .i64 0))⟩, ⟨some 6, none, .mov (.t 109)⟩])
    .ret))))))), [.tmp 6]⟩
theorem T_cartoucheref7_field : trFn Tryd.prog [(1000004, [1000001, 1000005, 1000007, 1000008, 1000013, 1000015, 1000016, 1000018, 1000020])] Tryd.f64 = some A_cartoucheref7_field := by kernel_rfl
theorem L_cartoucheref7_field : 3 ≤ Tryd.f64.ntmps := by decide

def A_strings_Split : AFn := ⟨(.seq (.region [⟨some 4, none, .mov (.c (.nil))⟩])
 (.seq (.region [⟨some 5, none, .mov (.t 0)⟩, ⟨some 6, none, .mov (.t 1)⟩, ⟨some 7, none, .call i_strings_genSplit [.t 5, .t 6, .c (.int .i64 0), .c (.int .i64 (-1))]⟩, ⟨some 4, none, .mov (.t 7)⟩])
    .ret)), [.tmp 4]⟩
theorem T_strings_Split : trFn Tryd.prog [] Tryd.f65 = some A_strings_Split := by kernel_rfl
theorem L_strings_Split : 2 ≤ Tryd.f65.ntmps := by decide

def A_lex_IsName : AFn := ⟨(.seq (.region [⟨some 2, none, .mov (.c (.bool false))⟩])
 (.seq (.region [⟨some 3, none, .mov (.t 0)⟩, ⟨some 4, none, .bin false .neq (.t 3) (.c (.str ⟨#[]⟩))⟩, ⟨some 5, none, .mov (.t 4)⟩, ⟨some 6, some (5, true), .mov (.t 0)⟩, ⟨some 7, some (5, true), .idxS (.t 6) (.c (.int .i64 0))⟩, ⟨some 8, some (5, true), .call i_lex_letter [.t 7]⟩, ⟨some 9, none, .pickb (.t 5) (.t 8) (.c (.bool false))⟩, ⟨some 10, none, .mov (.t 9)⟩, ⟨some 11, some (10, true), .mov (.t 0)⟩, ⟨some 12, some (10, true), .call i_lex_named [.t 11, .c (.int .i64 0)]⟩, ⟨some 13, some (10, true), .mov (.t 0)⟩, ⟨some 14, some (10, true), .len true (.t 13)⟩, ⟨some 15, some (10, true), .bin false .eql (.t 12) (.t 14)⟩, ⟨some 16, none, .pickb (.t 10) (.t 15) (.c (.bool false))⟩, ⟨some 2, none, .mov (.t 16)⟩])
    .ret)), [.tmp 2]⟩
theorem T_lex_IsName : trFn Tryd.prog [] Tryd.f66 = some A_lex_IsName := by kernel_rfl
theorem L_lex_IsName : 1 ≤ Tryd.f66.ntmps := by decide

def A_table_named_add : AFn := ⟨(.seq (.region [⟨some 4, none, .mov (.c (.bool false))⟩])
 (.seq (.seq (.region [⟨some 8, none, .mov (.t 0)⟩, ⟨some 9, none, .mov (.t 1)⟩, ⟨some 10, none, .look .str (.agg []) true (.t 8) (.t 9)⟩, ⟨some 7, none, .mov (.t 10)⟩, ⟨some 11, none, .ext 0 (.t 7)⟩, ⟨some 12, none, .ext 1 (.t 7)⟩, ⟨some 5, none, .alloc 90 []⟩, ⟨none, none, .store 0 (.t 5) (.t 11)⟩, ⟨some 6, none, .mov (.t 12)⟩])
 (.seq (.region [⟨some 13, none, .mov (.t 6)⟩])
 (.cond (.t 13) (.seq (.region [⟨some 4, none, .mov (.c (.bool false))⟩])
    .ret)
    .skip)))
 (.seq (.region [⟨some 14, none, .mov (.t 0)⟩, ⟨some 15, none, .mov (.t 1)⟩, ⟨some 16, none, .build [] []⟩, ⟨none, none, .mapset .str (.t 14) (.t 15) (.t 16)⟩])
 (.seq (.region [⟨some 4, none, .mov (.c (.bool true))⟩])
    .ret)))), [.tmp 4]⟩
theorem T_table_named_add : trFn Tryd.prog [(1, [0, 0, 0, 0, 0, 0, 91, 0, 0])] Tryd.f68 = some A_table_named_add := by kernel_rfl
theorem L_table_named_add : 2 ≤ Tryd.f68.ntmps := by decide

def A_table_reserved : AFn := ⟨(.seq (.region [⟨some 2, none, .boxI (.t 0)⟩, ⟨some 4, none, .mov (.c (.bool false))⟩])
 (.seq (.seq (.region [⟨some 7, none, .fldA 5 1 false (.t 2)⟩, ⟨some 8, none, .load 1 false (.t 7)⟩, ⟨some 9, none, .len false (.t 8)⟩, ⟨some 10, none, .mov (.c (.int .i64 0))⟩])
 (.block 0 (.loop (.seq (.region [⟨some 11, none, .bin false .lss (.t 10) (.t 9)⟩])
 (.seq (.cond (.t 11) .skip
 (.exit 0))
 (.seq (.block 1 (.seq (.region [⟨some 12, none, .idxA 2 (.t 8) (.t 10)⟩, ⟨some 13, none, .load 2 true (.t 12)⟩, ⟨some 6, none, .alloc 0 [.int .i64 0, .int .i64 0]⟩, ⟨none, none, .store 2 (.t 6) (.t 13)⟩])
 (.seq (.region [⟨some 14, none, .mov (.t 1)⟩, ⟨some 15, none, .fldA 0 1 false (.t 6)⟩, ⟨some 16, none, .load 1 false (.t 15)⟩, ⟨some 17, none, .bin false .geq (.t 14) (.t 16)⟩, ⟨some 18, none, .mov (.t 17)⟩, ⟨some 19, some (18, true), .mov (.t 1)⟩, ⟨some 20, some (18, true), .fldA 1 1 false (.t 6)⟩, ⟨some 21, some (18, true), .load 1 false (.t 20)⟩, ⟨some 22, some (18, true), .bin false .leq (.t 19) (.t 21)⟩, ⟨some 23, none, .pickb (.t 18) (.t 22) (.c (.bool false))⟩])
 (.cond (.t 23) (.seq (.region [⟨some 4, none, .mov (.c (.bool true))⟩])
    .ret)
    .skip))))
 (.region [⟨some 24, none, .bin false .add (.t 10) (.c (.int .i64 1))⟩, ⟨some 10, none, .mov (.t 24)⟩])))))))
 (.seq (.region [⟨some 4, none, .mov (.c (.bool false))⟩])
    .ret))), [.tmp 4]⟩
theorem T_table_reserved : trFn Tryd.prog [(3, [0, 0, 1, 0])] Tryd.f69 = some A_table_reserved := by kernel_rfl
theorem L_table_reserved : 2 ≤ Tryd.f69.ntmps := by decide

def A_table_goodField : AFn := ⟨(.seq (.region [⟨some 3, none, .boxI (.t 0)⟩, ⟨some 4, none, .boxI (.t 1)⟩, ⟨some 5, none, .boxI (.t 2)⟩, ⟨some 6, none, .mov (.c (.bool false))⟩])
 (.seq (.seq (.region [⟨some 7, none, .fldA 2 1 false (.t 5)⟩, ⟨some 8, none, .load 1 false (.t 7)⟩])
 (.block 0 (.seq (.seq (.region [⟨some 23, none, .bin false .eql (.t 8) (.c (.int .i64 16))⟩, ⟨some 22, none, .mov (.t 23)⟩])
 (.cond (.t 22) .skip
 (.region [⟨some 24, none, .bin false .eql (.t 8) (.c (.int .i64 17))⟩, ⟨some 22, none, .mov (.t 24)⟩])))
 (.cond (.t 22) (.seq (.region [⟨some 25, none, .load 1 true (.t 3)⟩, ⟨some 26, none, .fldA 3 1 false (.t 5)⟩, ⟨some 27, none, .load 1 false (.t 26)⟩, ⟨some 28, none, .fldA 2 1 false (.t 5)⟩, ⟨some 29, none, .load 1 false (.t 28)⟩, ⟨some 30, none, .bin false .eql (.t 29) (.c (.int .i64 16))⟩, ⟨some 31, none, .call i_table_sort [.t 25, .t 27, .t 30]⟩, ⟨some 32, none, .un .not (.t 31)⟩])
 (.cond (.t 32) (.seq (.region [⟨some 6, none, .mov (.c (.bool false))⟩])
    .ret)
    .skip))
 (.seq (.region [⟨some 9, none, .fldA 3 1 false (.t 5)⟩, ⟨some 10, none, .load 1 false (.t 9)⟩, ⟨some 11, none, .bin false .neq (.t 10) (.c (.int .i64 0))⟩, ⟨some 12, none, .mov (.t 11)⟩, ⟨some 13, some (12, false), .fldA 2 1 false (.t 5)⟩, ⟨some 14, some (12, false), .load 1 false (.t 13)⟩, ⟨some 15, some (12, false), .bin false .lss (.t 14) (.c (.int .i64 1))⟩, ⟨some 16, none, .pickb (.t 12) (.c (.bool true)) (.t 15)⟩, ⟨some 17, none, .mov (.t 16)⟩, ⟨some 18, some (17, false), .fldA 2 1 false (.t 5)⟩, ⟨some 19, some (17, false), .load 1 false (.t 18)⟩, ⟨some 20, some (17, false), .bin false .gtr (.t 19) (.c (.int .i64 17))⟩, ⟨some 21, none, .pickb (.t 17) (.c (.bool true)) (.t 20)⟩])
 (.cond (.t 21) (.seq (.region [⟨some 6, none, .mov (.c (.bool false))⟩])
    .ret)
    .skip))))))
 (.seq (.seq (.region [⟨some 33, none, .fldA 4 1 false (.t 5)⟩, ⟨some 34, none, .load 1 false (.t 33)⟩, ⟨some 35, none, .bin false .lss (.t 34) (.c (.int .i64 0))⟩, ⟨some 36, none, .mov (.t 35)⟩, ⟨some 37, some (36, false), .fldA 4 1 false (.t 5)⟩, ⟨some 38, some (36, false), .load 1 false (.t 37)⟩, ⟨some 39, some (36, false), .bin false .gtr (.t 38) (.c (.int .i64 5))⟩, ⟨some 40, none, .pickb (.t 36) (.c (.bool true)) (.t 39)⟩, ⟨some 41, none, .mov (.t 40)⟩, ⟨some 42, some (41, false), .fldA 4 1 false (.t 5)⟩, ⟨some 43, some (41, false), .load 1 false (.t 42)⟩, ⟨some 44, some (41, false), .bin false .eql (.t 43) (.c (.int .i64 0))⟩, ⟨some 45, some (41, false), .mov (.t 44)⟩, ⟨some 46, some (45, true), .fldA 2 1 false (.t 5)⟩, ⟨some 47, some (45, true), .load 1 false (.t 46)⟩, ⟨some 48, some (45, true), .bin false .eql (.t 47) (.c (.int .i64 17))⟩, ⟨some 49, some (41, false), .pickb (.t 45) (.t 48) (.c (.bool false))⟩, ⟨some 50, none, .pickb (.t 41) (.c (.bool true)) (.t 49)⟩, ⟨some 51, none, .mov (.t 50)⟩, ⟨some 52, some (51, false), .fldA 4 1 false (.t 5)⟩, ⟨some 53, some (51, false), .load 1 false (.t 52)⟩, ⟨some 54, some (51, false), .bin false .eql (.t 53) (.c (.int .i64 3))⟩, ⟨some 55, some (51, false), .mov (.t 54)⟩, ⟨some 56, some (55, true), .fldA 2 1 false (.t 5)⟩, ⟨some 57, some (55, true), .load 1 false (.t 56)⟩, ⟨some 58, some (55, true), .call i_scalar_Numeric [.t 57]⟩, ⟨some 59, some (55, true), .un .not (.t 58)⟩, ⟨some 60, some (51, false), .pickb (.t 55) (.t 59) (.c (.bool false))⟩, ⟨some 61, none, .pickb (.t 51) (.c (.bool true)) (.t 60)⟩])
 (.cond (.t 61) (.seq (.region [⟨some 6, none, .mov (.c (.bool false))⟩])
    .ret)
    .skip))
 (.seq (.seq (.region [⟨some 62, none, .fldA 4 1 false (.t 5)⟩, ⟨some 63, none, .load 1 false (.t 62)⟩, ⟨some 64, none, .bin false .eql (.t 63) (.c (.int .i64 4))⟩])
 (.cond (.t 64) (.seq (.region [⟨some 65, none, .fldA 5 1 false (.t 5)⟩, ⟨some 66, none, .load 1 false (.t 65)⟩, ⟨some 67, none, .bin false .lss (.t 66) (.c (.int .i64 0))⟩, ⟨some 68, none, .mov (.t 67)⟩, ⟨some 69, some (68, false), .fldA 5 1 false (.t 5)⟩, ⟨some 70, some (68, false), .load 1 false (.t 69)⟩, ⟨some 71, some (68, false), .fldA 3 1 false (.t 4)⟩, ⟨some 72, some (68, false), .load 1 false (.t 71)⟩, ⟨some 73, some (68, false), .len false (.t 72)⟩, ⟨some 74, some (68, false), .bin false .geq (.t 70) (.t 73)⟩, ⟨some 75, none, .pickb (.t 68) (.c (.bool true)) (.t 74)⟩])
 (.cond (.t 75) (.seq (.region [⟨some 6, none, .mov (.c (.bool false))⟩])
    .ret)
    .skip))
 (.seq (.region [⟨some 76, none, .fldA 5 1 false (.t 5)⟩, ⟨some 77, none, .load 1 false (.t 76)⟩, ⟨some 78, none, .bin false .neq (.t 77) (.c (.int .i64 0))⟩])
 (.cond (.t 78) (.seq (.region [⟨some 6, none, .mov (.c (.bool false))⟩])
    .ret)
    .skip))))
 (.seq (.seq (.region [⟨some 79, none, .fldA 4 1 false (.t 5)⟩, ⟨some 80, none, .load 1 false (.t 79)⟩, ⟨some 81, none, .bin false .eql (.t 80) (.c (.int .i64 5))⟩])
 (.cond (.t 81) (.seq (.region [⟨some 82, none, .fldA 6 1 false (.t 5)⟩, ⟨some 83, none, .load 1 false (.t 82)⟩, ⟨some 84, none, .call i_scalar_IsKey [.t 83]⟩, ⟨some 6, none, .mov (.t 84)⟩])
    .ret)
    .skip))
 (.seq (.region [⟨some 85, none, .fldA 6 1 false (.t 5)⟩, ⟨some 86, none, .load 1 false (.t 85)⟩, ⟨some 87, none, .bin false .eql (.t 86) (.c (.int .i64 0))⟩, ⟨some 6, none, .mov (.t 87)⟩])
    .ret)))))), [.tmp 6]⟩
theorem T_table_goodField : trFn Tryd.prog [] Tryd.f70 = some A_table_goodField := by kernel_rfl
theorem L_table_goodField : 3 ≤ Tryd.f70.ntmps := by decide

def A_cartoucheref3_Wire : AFn := ⟨(.seq (.region [⟨some 2, none, .mov (.c (.int .i64 0))⟩])
 (.seq (.seq (.region [⟨some 3, none, .mov (.t 0)⟩])
 (.block 0 (.seq (.seq (.region [⟨some 5, none, .bin false .eql (.t 3) (.c (.int .i64 1))⟩, ⟨some 4, none, .mov (.t 5)⟩])
 (.cond (.t 4) .skip
 (.seq (.region [⟨some 6, none, .bin false .eql (.t 3) (.c (.int .i64 2))⟩, ⟨some 4, none, .mov (.t 6)⟩])
 (.cond (.t 4) .skip
 (.seq (.region [⟨some 7, none, .bin false .eql (.t 3) (.c (.int .i64 3))⟩, ⟨some 4, none, .mov (.t 7)⟩])
 (.cond (.t 4) .skip
 (.seq (.region [⟨some 8, none, .bin false .eql (.t 3) (.c (.int .i64 4))⟩, ⟨some 4, none, .mov (.t 8)⟩])
 (.cond (.t 4) .skip
 (.seq (.region [⟨some 9, none, .bin false .eql (.t 3) (.c (.int .i64 5))⟩, ⟨some 4, none, .mov (.t 9)⟩])
 (.cond (.t 4) .skip
 (.seq (.region [⟨some 10, none, .bin false .eql (.t 3) (.c (.int .i64 6))⟩, ⟨some 4, none, .mov (.t 10)⟩])
 (.cond (.t 4) .skip
 (.seq (.region [⟨some 11, none, .bin false .eql (.t 3) (.c (.int .i64 7))⟩, ⟨some 4, none, .mov (.t 11)⟩])
 (.cond (.t 4) .skip
 (.region [⟨some 12, none, .bin false .eql (.t 3) (.c (.int .i64 16))⟩, ⟨some 4, none, .mov (.t 12)⟩])))))))))))))))
 (.cond (.t 4) (.seq (.region [⟨some 2, none, .mov (.c (.int .i64 0))⟩])
    .ret)
 (.seq (.seq (.region [⟨some 14, none, .bin false .eql (.t 3) (.c (.int .i64 8))⟩, ⟨some 13, none, .mov (.t 14)⟩])
 (.cond (.t 13) .skip
 (.seq (.region [⟨some 15, none, .bin false .eql (.t 3) (.c (.int .i64 10))⟩, ⟨some 13, none, .mov (.t 15)⟩])
 (.cond (.t 13) .skip
 (.region [⟨some 16, none, .bin false .eql (.t 3) (.c (.int .i64 12))⟩, ⟨some 13, none, .mov (.t 16)⟩])))))
 (.cond (.t 13) (.seq (.region [⟨some 2, none, .mov (.c (.int .i64 5))⟩])
    .ret)
 (.seq (.seq (.region [⟨some 18, none, .bin false .eql (.t 3) (.c (.int .i64 9))⟩, ⟨some 17, none, .mov (.t 18)⟩])
 (.cond (.t 17) .skip
 (.seq (.region [⟨some 19, none, .bin false .eql (.t 3) (.c (.int .i64 11))⟩, ⟨some 17, none, .mov (.t 19)⟩])
 (.cond (.t 17) .skip
 (.region [⟨some 20, none, .bin false .eql (.t 3) (.c (.int .i64 13))⟩, ⟨some 17, none, .mov (.t 20)⟩])))))
 (.cond (.t 17) (.seq (.region [⟨some 2, none, .mov (.c (.int .i64 1))⟩])
    .ret)
 (.seq (.seq (.region [⟨some 22, none, .bin false .eql (.t 3) (.c (.int .i64 14))⟩, ⟨some 21, none, .mov (.t 22)⟩])
 (.cond (.t 21) .skip
 (.seq (.region [⟨some 23, none, .bin false .eql (.t 3) (.c (.int .i64 15))⟩, ⟨some 21, none, .mov (.t 23)⟩])
 (.cond (.t 21) .skip
 (.region [⟨some 24, none, .bin false .eql (.t 3) (.c (.int .i64 17))⟩, ⟨some 21, none, .mov (.t 24)⟩])))))
 (.cond (.t 21) (.seq (.region [⟨some 2, none, .mov (.c (.int .i64 2))⟩])
    .ret)
    .skip))))))))))
 (.seq (.region [⟨some 2, none, .mov (.c (.int .i64 (-1)))⟩])
    .ret))), [.tmp 2]⟩
theorem T_cartoucheref3_Wire : trFn Tryd.prog [] Tryd.f73 = some A_cartoucheref3_Wire := by kernel_rfl
theorem L_cartoucheref3_Wire : 1 ≤ Tryd.f73.ntmps := by decide

def A_cartoucheref4_letter : AFn := ⟨(.seq (.region [⟨some 2, none, .mov (.c (.bool false))⟩])
 (.seq (.region [⟨some 3, none, .mov (.t 0)⟩, ⟨some 4, none, .bin false .geq (.t 3) (.c (.int .u8 97))⟩, ⟨some 5, none, .mov (.t 4)⟩, ⟨some 6, some (5, true), .mov (.t 0)⟩, ⟨some 7, some (5, true), .bin false .leq (.t 6) (.c (.int .u8 122))⟩, ⟨some 8, none, .pickb (.t 5) (.t 7) (.c (.bool false))⟩, ⟨some 9, none, .mov (.t 8)⟩, ⟨some 10, some (9, false), .mov (.t 0)⟩, ⟨some 11, some (9, false), .bin false .geq (.t 10) (.c (.int .u8 65))⟩, ⟨some 12, some (9, false), .mov (.t 11)⟩, ⟨some 13, some (12, true), .mov (.t 0)⟩, ⟨some 14, some (12, true), .bin false .leq (.t 13) (.c (.int .u8 90))⟩, ⟨some 15, some (9, false), .pickb (.t 12) (.t 14) (.c (.bool false))⟩, ⟨some 16, none, .pickb (.t 9) (.c (.bool true)) (.t 15)⟩, ⟨some 17, none, .mov (.t 16)⟩, ⟨some 18, some (17, false), .mov (.t 0)⟩, ⟨some 19, some (17, false), .bin false .eql (.t 18) (.c (.int .u8 95))⟩, ⟨some 20, none, .pickb (.t 17) (.c (.bool true)) (.t 19)⟩, ⟨some 2, none, .mov (.t 20)⟩])
    .ret)), [.tmp 2]⟩
theorem T_cartoucheref4_letter : trFn Tryd.prog [] Tryd.f82 = some A_cartoucheref4_letter := by kernel_rfl
theorem L_cartoucheref4_letter : 1 ≤ Tryd.f82.ntmps := by decide

def A_cartoucheref4_digit : AFn := ⟨(.seq (.region [⟨some 2, none, .mov (.c (.bool false))⟩])
 (.seq (.region [⟨some 3, none, .mov (.t 0)⟩, ⟨some 4, none, .bin false .geq (.t 3) (.c (.int .u8 48))⟩, ⟨some 5, none, .mov (.t 4)⟩, ⟨some 6, some (5, true), .mov (.t 0)⟩, ⟨some 7, some (5, true), .bin false .leq (.t 6) (.c (.int .u8 57))⟩, ⟨some 8, none, .pickb (.t 5) (.t 7) (.c (.bool false))⟩, ⟨some 2, none, .mov (.t 8)⟩])
    .ret)), [.tmp 2]⟩
theorem T_cartoucheref4_digit : trFn Tryd.prog [] Tryd.f83 = some A_cartoucheref4_digit := by kernel_rfl
theorem L_cartoucheref4_digit : 1 ≤ Tryd.f83.ntmps := by decide

def A_cartoucheref3_IsKey : AFn := ⟨(.seq (.region [⟨some 2, none, .mov (.c (.bool false))⟩])
 (.seq (.region [⟨some 3, none, .mov (.t 0)⟩, ⟨some 4, none, .bin false .geq (.t 3) (.c (.int .i64 1))⟩, ⟨some 5, none, .mov (.t 4)⟩, ⟨some 6, some (5, true), .mov (.t 0)⟩, ⟨some 7, some (5, true), .bin false .leq (.t 6) (.c (.int .i64 11))⟩, ⟨some 8, none, .pickb (.t 5) (.t 7) (.c (.bool false))⟩, ⟨some 9, none, .mov (.t 8)⟩, ⟨some 10, some (9, false), .mov (.t 0)⟩, ⟨some 11, some (9, false), .bin false .eql (.t 10) (.c (.int .i64 14))⟩, ⟨some 12, none, .pickb (.t 9) (.c (.bool true)) (.t 11)⟩, ⟨some 2, none, .mov (.t 12)⟩])
    .ret)), [.tmp 2]⟩
theorem T_cartoucheref3_IsKey : trFn Tryd.prog [] Tryd.f84 = some A_cartoucheref3_IsKey := by kernel_rfl
theorem L_cartoucheref3_IsKey : 1 ≤ Tryd.f84.ntmps := by decide

def A_strings_genSplit : AFn := ⟨(.seq (.region [⟨some 8, none, .mov (.c (.nil))⟩])
 (.seq (.seq (.region [⟨some 12, none, .mov (.t 3)⟩, ⟨some 13, none, .bin false .eql (.t 12) (.c (.int .i64 0))⟩])
 (.cond (.t 13) (.seq (.region [⟨some 8, none, .mov (.c (.nil))⟩])
    .ret)
    .skip))
 (.seq (.seq (.region [⟨some 14, none, .mov (.t 1)⟩, ⟨some 15, none, .bin false .eql (.t 14) (.c (.str ⟨#[]⟩))⟩])
 (.cond (.t 15) (.seq (.region [⟨some 16, none, .mov (.t 0)⟩, ⟨some 17, none, .mov (.t 3)⟩, ⟨some 18, none, .call i_strings_explode [.t 16, .t 17]⟩, ⟨some 8, none, .mov (.t 18)⟩])
    .ret)
    .skip))
 (.seq (.seq (.region [⟨some 19, none, .mov (.t 3)⟩, ⟨some 20, none, .bin false .lss (.t 19) (.c (.int .i64 0))⟩])
 (.cond (.t 20) (.region [⟨some 21, none, .mov (.t 0)⟩, ⟨some 22, none, .mov (.t 1)⟩, ⟨some 23, none, .call i_strings_Count [.t 21, .t 22]⟩, ⟨some 24, none, .bin false .add (.t 23) (.c (.int .i64 1))⟩, ⟨some 3, none, .mov (.t 24)⟩])
    .skip))
 (.seq (.region [⟨some 25, none, .mov (.t 3)⟩, ⟨some 26, none, .mov (.t 0)⟩, ⟨some 27, none, .len true (.t 26)⟩, ⟨some 28, none, .bin false .add (.t 27) (.c (.int .i64 1))⟩, ⟨some 29, none, .mm false (.t 25) (.t 28)⟩, ⟨some 3, none, .mov (.t 29)⟩])
 (.seq (.region [⟨some 30, none, .mov (.t 3)⟩, ⟨some 31, none, .mks 0 9 1 16 (.str ⟨#[]⟩) (.t 30) (.t 30)⟩, ⟨some 9, none, .mov (.t 31)⟩])
 (.seq (.region [⟨some 32, none, .mov (.t 3)⟩, ⟨some 33, none, .bin false .sub (.t 32) (.c (.int .i64 1))⟩, ⟨some 3, none, .mov (.t 33)⟩])
 (.seq (.region [⟨some 10, none, .mov (.c (.int .i64 0))⟩])
 (.seq (.block 0 (.loop (.seq (.seq (.region [⟨some 34, none, .mov (.t 10)⟩, ⟨some 35, none, .mov (.t 3)⟩, ⟨some 36, none, .bin false .lss (.t 34) (.t 35)⟩])
 (.cond (.t 36) .skip
 (.exit 0)))
 (.block 1 (.seq (.region [⟨some 37, none, .mov (.t 0)⟩, ⟨some 38, none, .mov (.t 1)⟩, ⟨some 39, none, .call i_strings_Index [.t 37, .t 38]⟩, ⟨some 11, none, .mov (.t 39)⟩])
 (.seq (.seq (.region [⟨some 40, none, .mov (.t 11)⟩, ⟨some 41, none, .bin false .lss (.t 40) (.c (.int .i64 0))⟩])
 (.cond (.t 41) (.exit 0)
    .skip))
 (.seq (.region [⟨some 42, none, .mov (.t 9)⟩, ⟨some 43, none, .mov (.t 10)⟩, ⟨some 44, none, .mov (.t 0)⟩, ⟨some 45, none, .mov (.t 11)⟩, ⟨some 46, none, .mov (.t 2)⟩, ⟨some 47, none, .bin false .add (.t 45) (.t 46)⟩, ⟨some 48, none, .slcS (.t 44) none (some (.t 47))⟩, ⟨some 49, none, .idxA 1 (.t 42) (.t 43)⟩, ⟨none, none, .store 1 (.t 49) (.t 48)⟩])
 (.seq (.region [⟨some 50, none, .mov (.t 0)⟩, ⟨some 51, none, .mov (.t 11)⟩, ⟨some 52, none, .mov (.t 1)⟩, ⟨some 53, none, .len true (.t 52)⟩, ⟨some 54, none, .bin false .add (.t 51) (.t 53)⟩, ⟨some 55, none, .slcS (.t 50) (some (.t 54)) none⟩, ⟨some 0, none, .mov (.t 55)⟩])
 (.region [⟨some 56, none, .mov (.t 10)⟩, ⟨some 57, none, .bin false .add (.t 56) (.c (.int .i64 1))⟩, ⟨some 10, none, .mov (.t 57)⟩])))))))))
 (.seq (.region [⟨some 58, none, .mov (.t 9)⟩, ⟨some 59, none, .mov (.t 10)⟩, ⟨some 60, none, .mov (.t 0)⟩, ⟨some 61, none, .idxA 1 (.t 58) (.t 59)⟩, ⟨none, none, .store 1 (.t 61) (.t 60)⟩])
 (.seq (.region [⟨some 62, none, .mov (.t 9)⟩, ⟨some 63, none, .mov (.t 10)⟩, ⟨some 64, none, .bin false .add (.t 63) (.c (.int .i64 1))⟩, ⟨some 65, none, .slc 1 (.t 62) none (some (.t 64)) none⟩, ⟨some 8, none, .mov (.t 65)⟩])
    .ret))))))))))), [.tmp 8]⟩
theorem T_strings_genSplit : trFn Tryd.prog [] Tryd.f85 = some A_strings_genSplit := by kernel_rfl
theorem L_strings_genSplit : 4 ≤ Tryd.f85.ntmps := by decide

def A_lex_letter : AFn := ⟨(.seq (.region [⟨some 2, none, .mov (.c (.bool false))⟩])
 (.seq (.region [⟨some 3, none, .mov (.t 0)⟩, ⟨some 4, none, .bin false .geq (.t 3) (.c (.int .u8 97))⟩, ⟨some 5, none, .mov (.t 4)⟩, ⟨some 6, some (5, true), .mov (.t 0)⟩, ⟨some 7, some (5, true), .bin false .leq (.t 6) (.c (.int .u8 122))⟩, ⟨some 8, none, .pickb (.t 5) (.t 7) (.c (.bool false))⟩, ⟨some 9, none, .mov (.t 8)⟩, ⟨some 10, some (9, false), .mov (.t 0)⟩, ⟨some 11, some (9, false), .bin false .geq (.t 10) (.c (.int .u8 65))⟩, ⟨some 12, some (9, false), .mov (.t 11)⟩, ⟨some 13, some (12, true), .mov (.t 0)⟩, ⟨some 14, some (12, true), .bin false .leq (.t 13) (.c (.int .u8 90))⟩, ⟨some 15, some (9, false), .pickb (.t 12) (.t 14) (.c (.bool false))⟩, ⟨some 16, none, .pickb (.t 9) (.c (.bool true)) (.t 15)⟩, ⟨some 17, none, .mov (.t 16)⟩, ⟨some 18, some (17, false), .mov (.t 0)⟩, ⟨some 19, some (17, false), .bin false .eql (.t 18) (.c (.int .u8 95))⟩, ⟨some 20, none, .pickb (.t 17) (.c (.bool true)) (.t 19)⟩, ⟨some 2, none, .mov (.t 20)⟩])
    .ret)), [.tmp 2]⟩
theorem T_lex_letter : trFn Tryd.prog [] Tryd.f86 = some A_lex_letter := by kernel_rfl
theorem L_lex_letter : 1 ≤ Tryd.f86.ntmps := by decide

def A_lex_named : AFn := ⟨(.seq (.region [⟨some 4, none, .mov (.c (.int .i64 0))⟩])
 (.seq (.block 0 (.loop (.seq (.seq (.region [⟨some 5, none, .mov (.t 1)⟩, ⟨some 6, none, .mov (.t 0)⟩, ⟨some 7, none, .len true (.t 6)⟩, ⟨some 8, none, .bin false .lss (.t 5) (.t 7)⟩, ⟨some 9, none, .mov (.t 8)⟩, ⟨some 10, some (9, true), .mov (.t 0)⟩, ⟨some 11, some (9, true), .mov (.t 1)⟩, ⟨some 12, some (9, true), .idxS (.t 10) (.t 11)⟩, ⟨some 13, some (9, true), .call i_lex_letter [.t 12]⟩, ⟨some 14, some (9, true), .mov (.t 13)⟩, ⟨some 15, some (14, false), .mov (.t 0)⟩, ⟨some 16, some (14, false), .mov (.t 1)⟩, ⟨some 17, some (14, false), .idxS (.t 15) (.t 16)⟩, ⟨some 18, some (14, false), .call i_lex_digit [.t 17]⟩, ⟨some 19, some (9, true), .pickb (.t 14) (.c (.bool true)) (.t 18)⟩, ⟨some 20, none, .pickb (.t 9) (.t 19) (.c (.bool false))⟩])
 (.cond (.t 20) .skip
 (.exit 0)))
 (.block 1 (.region [⟨some 21, none, .mov (.t 1)⟩, ⟨some 22, none, .bin false .add (.t 21) (.c (.int .i64 1))⟩, ⟨some 1, none, .mov (.t 22)⟩])))))
 (.seq (.region [⟨some 23, none, .mov (.t 1)⟩, ⟨some 4, none, .mov (.t 23)⟩])
    .ret))), [.tmp 4]⟩
theorem T_lex_named : trFn Tryd.prog [] Tryd.f87 = some A_lex_named := by kernel_rfl
theorem L_lex_named : 2 ≤ Tryd.f87.ntmps := by decide

def A_scalar_Numeric : AFn := ⟨(.seq (.region [⟨some 2, none, .mov (.c (.bool false))⟩])
 (.seq (.region [⟨some 6, none, .mov (.t 0)⟩, ⟨some 7, none, .call i_scalar_Wire [.t 6]⟩, ⟨some 5, none, .mov (.t 7)⟩, ⟨some 8, none, .ext 0 (.t 5)⟩, ⟨some 9, none, .ext 1 (.t 5)⟩, ⟨some 3, none, .mov (.t 8)⟩, ⟨some 4, none, .mov (.t 9)⟩])
 (.seq (.region [⟨some 10, none, .mov (.t 4)⟩, ⟨some 11, none, .bin false .eql (.t 10) (.c (.int .i64 0))⟩, ⟨some 12, none, .mov (.t 11)⟩, ⟨some 13, some (12, true), .mov (.t 3)⟩, ⟨some 14, some (12, true), .bin false .neq (.t 13) (.c (.int .i64 2))⟩, ⟨some 15, none, .pickb (.t 12) (.t 14) (.c (.bool false))⟩, ⟨some 2, none, .mov (.t 15)⟩])
    .ret))), [.tmp 2]⟩
theorem T_scalar_Numeric : trFn Tryd.prog [] Tryd.f91 = some A_scalar_Numeric := by kernel_rfl
theorem L_scalar_Numeric : 1 ≤ Tryd.f91.ntmps := by decide

def A_scalar_IsKey : AFn := ⟨(.seq (.region [⟨some 2, none, .mov (.c (.bool false))⟩])
 (.seq (.region [⟨some 3, none, .mov (.t 0)⟩, ⟨some 4, none, .bin false .geq (.t 3) (.c (.int .i64 1))⟩, ⟨some 5, none, .mov (.t 4)⟩, ⟨some 6, some (5, true), .mov (.t 0)⟩, ⟨some 7, some (5, true), .bin false .leq (.t 6) (.c (.int .i64 11))⟩, ⟨some 8, none, .pickb (.t 5) (.t 7) (.c (.bool false))⟩, ⟨some 9, none, .mov (.t 8)⟩, ⟨some 10, some (9, false), .mov (.t 0)⟩, ⟨some 11, some (9, false), .bin false .eql (.t 10) (.c (.int .i64 14))⟩, ⟨some 12, none, .pickb (.t 9) (.c (.bool true)) (.t 11)⟩, ⟨some 2, none, .mov (.t 12)⟩])
    .ret)), [.tmp 2]⟩
theorem T_scalar_IsKey : trFn Tryd.prog [] Tryd.f92 = some A_scalar_IsKey := by kernel_rfl
theorem L_scalar_IsKey : 1 ≤ Tryd.f92.ntmps := by decide

def A_scalar_Wire : AFn := ⟨(.seq (.region [⟨some 2, none, .mov (.c (.int .i64 0))⟩, ⟨some 3, none, .mov (.c (.int .i64 0))⟩])
 (.seq (.seq (.region [⟨some 4, none, .mov (.t 0)⟩])
 (.block 0 (.seq (.seq (.region [⟨some 6, none, .bin false .eql (.t 4) (.c (.int .i64 1))⟩, ⟨some 5, none, .mov (.t 6)⟩])
 (.cond (.t 5) .skip
 (.seq (.region [⟨some 7, none, .bin false .eql (.t 4) (.c (.int .i64 2))⟩, ⟨some 5, none, .mov (.t 7)⟩])
 (.cond (.t 5) .skip
 (.seq (.region [⟨some 8, none, .bin false .eql (.t 4) (.c (.int .i64 3))⟩, ⟨some 5, none, .mov (.t 8)⟩])
 (.cond (.t 5) .skip
 (.seq (.region [⟨some 9, none, .bin false .eql (.t 4) (.c (.int .i64 4))⟩, ⟨some 5, none, .mov (.t 9)⟩])
 (.cond (.t 5) .skip
 (.seq (.region [⟨some 10, none, .bin false .eql (.t 4) (.c (.int .i64 5))⟩, ⟨some 5, none, .mov (.t 10)⟩])
 (.cond (.t 5) .skip
 (.seq (.region [⟨some 11, none, .bin false .eql (.t 4) (.c (.int .i64 6))⟩, ⟨some 5, none, .mov (.t 11)⟩])
 (.cond (.t 5) .skip
 (.seq (.region [⟨some 12, none, .bin false .eql (.t 4) (.c (.int .i64 7))⟩, ⟨some 5, none, .mov (.t 12)⟩])
 (.cond (.t 5) .skip
 (.region [⟨some 13, none, .bin false .eql (.t 4) (.c (.int .i64 16))⟩, ⟨some 5, none, .mov (.t 13)⟩])))))))))))))))
 (.cond (.t 5) (.seq (.region [⟨some 2, none, .mov (.c (.int .i64 0))⟩, ⟨some 3, none, .mov (.c (.int .i64 0))⟩])
    .ret)
 (.seq (.seq (.region [⟨some 15, none, .bin false .eql (.t 4) (.c (.int .i64 8))⟩, ⟨some 14, none, .mov (.t 15)⟩])
 (.cond (.t 14) .skip
 (.seq (.region [⟨some 16, none, .bin false .eql (.t 4) (.c (.int .i64 10))⟩, ⟨some 14, none, .mov (.t 16)⟩])
 (.cond (.t 14) .skip
 (.region [⟨some 17, none, .bin false .eql (.t 4) (.c (.int .i64 12))⟩, ⟨some 14, none, .mov (.t 17)⟩])))))
 (.cond (.t 14) (.seq (.region [⟨some 2, none, .mov (.c (.int .i64 5))⟩, ⟨some 3, none, .mov (.c (.int .i64 0))⟩])
    .ret)
 (.seq (.seq (.region [⟨some 19, none, .bin false .eql (.t 4) (.c (.int .i64 9))⟩, ⟨some 18, none, .mov (.t 19)⟩])
 (.cond (.t 18) .skip
 (.seq (.region [⟨some 20, none, .bin false .eql (.t 4) (.c (.int .i64 11))⟩, ⟨some 18, none, .mov (.t 20)⟩])
 (.cond (.t 18) .skip
 (.region [⟨some 21, none, .bin false .eql (.t 4) (.c (.int .i64 13))⟩, ⟨some 18, none, .mov (.t 21)⟩])))))
 (.cond (.t 18) (.seq (.region [⟨some 2, none, .mov (.c (.int .i64 1))⟩, ⟨some 3, none, .mov (.c (.int .i64 0))⟩])
    .ret)
 (.seq (.seq (.region [⟨some 23, none, .bin false .eql (.t 4) (.c (.int .i64 14))⟩, ⟨some 22, none, .mov (.t 23)⟩])
 (.cond (.t 22) .skip
 (.seq (.region [⟨some 24, none, .bin false .eql (.t 4) (.c (.int .i64 15))⟩, ⟨some 22, none, .mov (.t 24)⟩])
 (.cond (.t 22) .skip
 (.region [⟨some 25, none, .bin false .eql (.t 4) (.c (.int .i64 17))⟩, ⟨some 22, none, .mov (.t 25)⟩])))))
 (.cond (.t 22) (.seq (.region [⟨some 2, none, .mov (.c (.int .i64 2))⟩, ⟨some 3, none, .mov (.c (.int .i64 0))⟩])
    .ret)
    .skip))))))))))
 (.seq (.region [⟨some 2, none, .mov (.c (.int .i64 0))⟩, ⟨some 3, none, .mov (.c (.int .i64 18))⟩])
    .ret))), [.tmp 2, .tmp 3]⟩
theorem T_scalar_Wire : trFn Tryd.prog [] Tryd.f93 = some A_scalar_Wire := by kernel_rfl
theorem L_scalar_Wire : 1 ≤ Tryd.f93.ntmps := by decide

def A_lex_digit : AFn := ⟨(.seq (.region [⟨some 2, none, .mov (.c (.bool false))⟩])
 (.seq (.region [⟨some 3, none, .mov (.t 0)⟩, ⟨some 4, none, .bin false .geq (.t 3) (.c (.int .u8 48))⟩, ⟨some 5, none, .mov (.t 4)⟩, ⟨some 6, some (5, true), .mov (.t 0)⟩, ⟨some 7, some (5, true), .bin false .leq (.t 6) (.c (.int .u8 57))⟩, ⟨some 8, none, .pickb (.t 5) (.t 7) (.c (.bool false))⟩, ⟨some 2, none, .mov (.t 8)⟩])
    .ret)), [.tmp 2]⟩
theorem T_lex_digit : trFn Tryd.prog [] Tryd.f102 = some A_lex_digit := by kernel_rfl
theorem L_lex_digit : 1 ≤ Tryd.f102.ntmps := by decide

end Go.Proofs.YtmdkcapbahjipaaDoor.Ag
