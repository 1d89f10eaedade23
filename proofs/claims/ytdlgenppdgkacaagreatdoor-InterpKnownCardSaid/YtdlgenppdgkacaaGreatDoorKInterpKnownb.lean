/- The functions that InterpKnown reaches, further. -/
import Derived.Test.YtdlgenppdgkacaaGreatDoorKInterpKnowna
set_option maxRecDepth 100000
namespace Go.Proofs.YtdlgenppdgkacaaGreatDoor.Ag
set_option maxRecDepth 100000
/-! cartouche/table.goodMessage -/
def A_table_goodMessage : AFn := ⟨(.seq (.region [⟨some 2, none, .box 0 (.t 0)⟩,
      ⟨some 3, none, .box 0 (.t 1)⟩,
      ⟨some 4, none, .mov (.c (.bool false))⟩])
    (.seq (.seq (.region [⟨some 16, none, .fldA 4 1 false (.t 3)⟩,
      ⟨some 17, none, .load 1 false (.t 16)⟩,
      ⟨some 18, none, .len false (.t 17)⟩,
      ⟨some 19, none, .bin false .gtr (.t 18) (.c (.int .i64 0))⟩,
      ⟨some 20, none, .mov (.t 19)⟩,
      ⟨some 21, some (20, false), .fldA 2 1 false (.t 3)⟩,
      ⟨some 22, some (20, false), .load 1 false (.t 21)⟩,
      ⟨some 23, some (20, false), .len false (.t 22)⟩,
      ⟨some 24, some (20, false), .bin false .gtr (.t 23) (.c (.int .i64 128))⟩,
      ⟨some 25, none, .pickb (.t 20) (.c (.bool true)) (.t 24)⟩,
      ⟨some 26, none, .mov (.t 25)⟩,
      ⟨some 27, some (26, false), .fldA 5 1 false (.t 3)⟩,
      ⟨some 28, some (26, false), .load 1 false (.t 27)⟩,
      ⟨some 29, some (26, false), .len false (.t 28)⟩,
      ⟨some 30, some (26, false), .bin false .gtr (.t 29) (.c (.int .i64 128))⟩,
      ⟨some 31, none, .pickb (.t 26) (.c (.bool true)) (.t 30)⟩])
    (.cond (.t 31) (.seq (.region [⟨some 4, none, .mov (.c (.bool false))⟩])
    .ret)
    .skip))
    (.seq (.draw [3000000] [⟨some 32, none, .mkmap 0 .str⟩,
      ⟨some 33, none, .fldA 3 1 false (.t 3)⟩,
      ⟨some 34, none, .load 1 false (.t 33)⟩,
      ⟨some 35, none, .len false (.t 34)⟩,
      ⟨some 36, none, .mks 0 3 1 8 (.int .i64 0) (.t 35) (.t 35)⟩,
      ⟨some 5, none, .mov (.t 32)⟩,
      ⟨some 6, none, .mov (.t 36)⟩])
    (.seq (.seq (.region [⟨some 37, none, .fldA 3 1 false (.t 3)⟩,
      ⟨some 38, none, .load 1 false (.t 37)⟩,
      ⟨some 39, none, .len false (.t 38)⟩,
      ⟨some 40, none, .mov (.c (.int .i64 0))⟩])
    (.block 0 (.loop (.seq (.region [⟨some 41, none, .bin false .lss (.t 40) (.t 39)⟩])
    (.seq (.cond (.t 41) .skip
    (.exit 0))
    (.seq (.block 1 (.seq (.region [⟨some 42, none, .idxA 1 (.t 38) (.t 40)⟩,
      ⟨some 43, none, .load 1 false (.t 42)⟩,
      ⟨some 8, none, .mov (.t 43)⟩])
    (.seq (.region [⟨some 44, none, .mov (.t 8)⟩,
      ⟨some 45, none, .call i_lex_IsName [.t 44]⟩,
      ⟨some 46, none, .un .not (.t 45)⟩,
      ⟨some 47, none, .mov (.t 46)⟩,
      ⟨some 48, some (47, false), .mov (.t 5)⟩,
      ⟨some 49, some (47, false), .mov (.t 8)⟩,
      ⟨some 50, some (47, false), .call i_table_named_add [.t 48, .t 49]⟩,
      ⟨some 51, some (47, false), .un .not (.t 50)⟩,
      ⟨some 52, none, .pickb (.t 47) (.c (.bool true)) (.t 51)⟩])
    (.cond (.t 52) (.seq (.region [⟨some 4, none, .mov (.c (.bool false))⟩])
    .ret)
    .skip))))
    (.region [⟨some 53, none, .bin false .add (.t 40) (.c (.int .i64 1))⟩,
      ⟨some 40, none, .mov (.t 53)⟩])))))))
    (.seq (.seq (.region [⟨some 54, none, .fldA 5 1 false (.t 3)⟩,
      ⟨some 55, none, .load 1 false (.t 54)⟩,
      ⟨some 56, none, .len false (.t 55)⟩,
      ⟨some 57, none, .mov (.c (.int .i64 0))⟩])
    (.block 2 (.loop (.seq (.region [⟨some 58, none, .bin false .lss (.t 57) (.t 56)⟩])
    (.seq (.cond (.t 58) .skip
    (.exit 2))
    (.seq (.block 3 (.seq (.region [⟨some 59, none, .mov (.t 57)⟩,
      ⟨some 60, none, .idxA 2 (.t 55) (.t 57)⟩,
      ⟨some 61, none, .load 2 true (.t 60)⟩,
      ⟨some 10, none, .alloc 0 [.int .i64 0, .int .i64 0]⟩,
      ⟨some 9, none, .mov (.t 59)⟩,
      ⟨none, none, .store 2 (.t 10) (.t 61)⟩])
    (.seq (.draw [1, 5, 10, 20, 1000012, 1000022, 1000025, 1000027] [⟨some 62, none, .fldA 0 1 false (.t 10)⟩,
      ⟨some 63, none, .load 1 false (.t 62)⟩,
      ⟨some 64, none, .bin false .lss (.t 63) (.c (.int .i64 1))⟩,
      ⟨some 65, none, .mov (.t 64)⟩,
      ⟨some 66, some (65, false), .fldA 1 1 false (.t 10)⟩,
      ⟨some 67, some (65, false), .load 1 false (.t 66)⟩,
      ⟨some 68, some (65, false), .bin false .gtr (.t 67) (.c (.int .i64 536870911))⟩,
      ⟨some 69, none, .pickb (.t 65) (.c (.bool true)) (.t 68)⟩,
      ⟨some 70, none, .mov (.t 69)⟩,
      ⟨some 71, some (70, false), .fldA 0 1 false (.t 10)⟩,
      ⟨some 72, some (70, false), .load 1 false (.t 71)⟩,
      ⟨some 73, some (70, false), .fldA 1 1 false (.t 10)⟩,
      ⟨some 74, some (70, false), .load 1 false (.t 73)⟩,
      ⟨some 75, some (70, false), .bin false .gtr (.t 72) (.t 74)⟩,
      ⟨some 76, none, .pickb (.t 70) (.c (.bool true)) (.t 75)⟩,
      ⟨some 77, none, .mov (.t 76)⟩,
      ⟨some 78, some (77, false), .mov (.t 9)⟩,
      ⟨some 79, some (77, false), .bin false .gtr (.t 78) (.c (.int .i64 0))⟩,
      ⟨some 80, some (77, false), .mov (.t 79)⟩,
      ⟨some 81, some (80, true), .fldA 0 1 false (.t 10)⟩,
      ⟨some 82, some (80, true), .load 1 false (.t 81)⟩,
      ⟨some 83, some (80, true), .fldA 5 1 false (.t 3)⟩,
      ⟨some 84, some (80, true), .load 1 false (.t 83)⟩,
      ⟨some 85, some (80, true), .mov (.t 9)⟩,
      ⟨some 86, some (80, true), .bin false .sub (.t 85) (.c (.int .i64 1))⟩,
      ⟨some 87, some (80, true), .idxA 2 (.t 84) (.t 86)⟩,
      ⟨some 88, some (80, true), .fldA 1 1 false (.t 87)⟩,
      ⟨some 89, some (80, true), .load 1 false (.t 88)⟩,
      ⟨some 90, some (80, true), .bin false .leq (.t 82) (.t 89)⟩,
      ⟨some 91, some (77, false), .pickb (.t 80) (.t 90) (.c (.bool false))⟩,
      ⟨some 92, none, .pickb (.t 77) (.c (.bool true)) (.t 91)⟩])
    (.cond (.t 92) (.seq (.region [⟨some 4, none, .mov (.c (.bool false))⟩])
    .ret)
    .skip))))
    (.region [⟨some 93, none, .bin false .add (.t 57) (.c (.int .i64 1))⟩,
      ⟨some 57, none, .mov (.t 93)⟩])))))))
    (.seq (.region [⟨some 11, none, .mov (.c (.int .i64 0))⟩])
    (.seq (.seq (.region [⟨some 94, none, .fldA 2 1 false (.t 3)⟩,
      ⟨some 95, none, .load 1 false (.t 94)⟩,
      ⟨some 96, none, .len false (.t 95)⟩,
      ⟨some 97, none, .mov (.c (.int .i64 0))⟩])
    (.block 4 (.loop (.seq (.region [⟨some 98, none, .bin false .lss (.t 97) (.t 96)⟩])
    (.seq (.cond (.t 98) .skip
    (.exit 4))
    (.seq (.block 5 (.seq (.region [⟨some 99, none, .idxA 7 (.t 95) (.t 97)⟩,
      ⟨some 100, none, .load 7 true (.t 99)⟩,
      ⟨some 13, none, .alloc 0 [.str ⟨#[]⟩, .int .i64 0, .int .i64 0, .int .i64 0, .int .i64 0, .int .i64 0, .int .i64 0]⟩,
      ⟨none, none, .store 7 (.t 13) (.t 100)⟩])
    (.seq (.seq (.region [⟨some 101, none, .fldA 0 1 false (.t 13)⟩,
      ⟨some 102, none, .load 1 false (.t 101)⟩,
      ⟨some 103, none, .call i_lex_IsName [.t 102]⟩,
      ⟨some 104, none, .un .not (.t 103)⟩,
      ⟨some 105, none, .mov (.t 104)⟩,
      ⟨some 106, some (105, false), .mov (.t 5)⟩,
      ⟨some 107, some (105, false), .fldA 0 1 false (.t 13)⟩,
      ⟨some 108, some (105, false), .load 1 false (.t 107)⟩,
      ⟨some 109, some (105, false), .call i_table_named_add [.t 106, .t 108]⟩,
      ⟨some 110, some (105, false), .un .not (.t 109)⟩,
      ⟨some 111, none, .pickb (.t 105) (.c (.bool true)) (.t 110)⟩,
      ⟨some 112, none, .mov (.t 111)⟩,
      ⟨some 113, some (112, false), .fldA 1 1 false (.t 13)⟩,
      ⟨some 114, some (112, false), .load 1 false (.t 113)⟩,
      ⟨some 115, some (112, false), .mov (.t 11)⟩,
      ⟨some 116, some (112, false), .bin false .leq (.t 114) (.t 115)⟩,
      ⟨some 117, none, .pickb (.t 112) (.c (.bool true)) (.t 116)⟩,
      ⟨some 118, none, .mov (.t 117)⟩,
      ⟨some 119, some (118, false), .fldA 1 1 false (.t 13)⟩,
      ⟨some 120, some (118, false), .load 1 false (.t 119)⟩,
      ⟨some 121, some (118, false), .bin false .gtr (.t 120) (.c (.int .i64 536870911))⟩,
      ⟨some 122, none, .pickb (.t 118) (.c (.bool true)) (.t 121)⟩,
      ⟨some 123, none, .mov (.t 122)⟩,
      ⟨some 124, some (123, false), .load 6 true (.t 3)⟩,
      ⟨some 125, some (123, false), .fldA 1 1 false (.t 13)⟩,
      ⟨some 126, some (123, false), .load 1 false (.t 125)⟩,
      ⟨some 127, some (123, false), .call i_table_reserved [.t 124, .t 126]⟩,
      ⟨some 128, none, .pickb (.t 123) (.c (.bool true)) (.t 127)⟩,
      ⟨some 129, none, .mov (.t 128)⟩,
      ⟨some 130, some (129, false), .load 1 true (.t 2)⟩,
      ⟨some 131, some (129, false), .load 6 true (.t 3)⟩,
      ⟨some 132, some (129, false), .load 7 true (.t 13)⟩,
      ⟨some 133, some (129, false), .call i_table_goodField [.t 130, .t 131, .t 132]⟩,
      ⟨some 134, some (129, false), .un .not (.t 133)⟩,
      ⟨some 135, none, .pickb (.t 129) (.c (.bool true)) (.t 134)⟩])
    (.cond (.t 135) (.seq (.region [⟨some 4, none, .mov (.c (.bool false))⟩])
    .ret)
    .skip))
    (.seq (.region [⟨some 136, none, .fldA 1 1 false (.t 13)⟩,
      ⟨some 137, none, .load 1 false (.t 136)⟩,
      ⟨some 11, none, .mov (.t 137)⟩])
    (.seq (.region [⟨some 138, none, .fldA 4 1 false (.t 13)⟩,
      ⟨some 139, none, .load 1 false (.t 138)⟩,
      ⟨some 140, none, .bin false .eql (.t 139) (.c (.int .i64 4))⟩])
    (.cond (.t 140) (.region [⟨some 141, none, .mov (.t 6)⟩,
      ⟨some 142, none, .fldA 5 1 false (.t 13)⟩,
      ⟨some 143, none, .load 1 false (.t 142)⟩,
      ⟨some 144, none, .idxA 1 (.t 141) (.t 143)⟩,
      ⟨some 145, none, .load 1 false (.t 144)⟩,
      ⟨some 146, none, .bin false .add (.t 145) (.c (.int .i64 1))⟩,
      ⟨some 147, none, .idxA 1 (.t 141) (.t 143)⟩,
      ⟨none, none, .store 1 (.t 147) (.t 146)⟩])
    .skip))))))
    (.region [⟨some 148, none, .bin false .add (.t 97) (.c (.int .i64 1))⟩,
      ⟨some 97, none, .mov (.t 148)⟩])))))))
    (.seq (.seq (.region [⟨some 149, none, .mov (.t 6)⟩,
      ⟨some 150, none, .len false (.t 149)⟩,
      ⟨some 151, none, .mov (.c (.int .i64 0))⟩])
    (.block 6 (.loop (.seq (.region [⟨some 152, none, .bin false .lss (.t 151) (.t 150)⟩])
    (.seq (.cond (.t 152) .skip
    (.exit 6))
    (.seq (.block 7 (.seq (.region [⟨some 153, none, .idxA 1 (.t 149) (.t 151)⟩,
      ⟨some 154, none, .load 1 false (.t 153)⟩,
      ⟨some 15, none, .mov (.t 154)⟩])
    (.seq (.region [⟨some 155, none, .mov (.t 15)⟩,
      ⟨some 156, none, .bin false .eql (.t 155) (.c (.int .i64 0))⟩])
    (.cond (.t 156) (.seq (.region [⟨some 4, none, .mov (.c (.bool false))⟩])
    .ret)
    .skip))))
    (.region [⟨some 157, none, .bin false .add (.t 151) (.c (.int .i64 1))⟩,
      ⟨some 151, none, .mov (.t 157)⟩])))))))
    (.seq (.region [⟨some 4, none, .mov (.c (.bool true))⟩])
    .ret))))))))), [.tmp 4]⟩
theorem T_table_goodMessage : trFn Tryz.prog [(0, [1, 1, 0]), (12, [0, 0, 0, 1, 0, 0]), (19, [0, 0, 1, 0]), (1000003, [3000000]), (1000013, [1, 5, 10, 20, 1000012, 1000022, 1000025, 1000027])] Tryz.f203 = some A_table_goodMessage := by kernel_rfl
theorem L_table_goodMessage : 2 ≤ Tryz.f203.ntmps := by decide

/-! slices.Insert[[]cartouche/api.Field,cartouche/api.Field] -/
def A_slices_Insert_api_Field_api_Field : AFn := ⟨(.seq (.region [⟨some 6, none, .mov (.c (.nil))⟩])
    (.seq (.region [⟨some 10, none, .mov (.t 0)⟩,
      ⟨some 11, none, .mov (.t 1)⟩,
      ⟨some 12, none, .slcT 0 3 (.t 10) (.t 11)⟩])
    (.seq (.region [⟨some 13, none, .mov (.t 2)⟩,
      ⟨some 14, none, .len false (.t 13)⟩,
      ⟨some 7, none, .mov (.t 14)⟩])
    (.seq (.seq (.region [⟨some 15, none, .mov (.t 7)⟩,
      ⟨some 16, none, .bin false .eql (.t 15) (.c (.int .i64 0))⟩])
    (.cond (.t 16) (.seq (.region [⟨some 17, none, .mov (.t 0)⟩,
      ⟨some 6, none, .mov (.t 17)⟩])
    .ret)
    .skip))
    (.seq (.region [⟨some 18, none, .mov (.t 0)⟩,
      ⟨some 19, none, .len false (.t 18)⟩,
      ⟨some 8, none, .mov (.t 19)⟩])
    (.seq (.seq (.region [⟨some 20, none, .mov (.t 1)⟩,
      ⟨some 21, none, .mov (.t 8)⟩,
      ⟨some 22, none, .bin false .eql (.t 20) (.t 21)⟩])
    (.cond (.t 22) (.seq (.region [⟨some 23, none, .mov (.t 0)⟩,
      ⟨some 24, none, .mov (.t 2)⟩,
      ⟨some 25, none, .app 0 29 3 56 (.t 23) (.t 24)⟩,
      ⟨some 6, none, .mov (.t 25)⟩])
    .ret)
    .skip))
    (.seq (.seq (.region [⟨some 26, none, .mov (.t 8)⟩,
      ⟨some 27, none, .mov (.t 7)⟩,
      ⟨some 28, none, .bin false .add (.t 26) (.t 27)⟩,
      ⟨some 29, none, .mov (.t 0)⟩,
      ⟨some 30, none, .bad⟩,
      ⟨some 31, none, .bin false .gtr (.t 28) (.t 30)⟩])
    (.cond (.t 31) (.seq (.region [⟨some 32, none, .mov (.t 0)⟩,
      ⟨some 33, none, .mov (.t 1)⟩,
      ⟨some 34, none, .slcH 3 (.t 32) (.t 33)⟩,
      ⟨some 35, none, .mov (.t 8)⟩,
      ⟨some 36, none, .mov (.t 7)⟩,
      ⟨some 37, none, .bin false .add (.t 35) (.t 36)⟩,
      ⟨some 38, none, .mov (.t 1)⟩,
      ⟨some 39, none, .bin false .sub (.t 37) (.t 38)⟩,
      ⟨some 40, none, .bad⟩,
      ⟨some 9, none, .mov (.t 40)⟩])
    (.seq (.region [⟨some 41, none, .mov (.t 9)⟩,
      ⟨some 42, none, .mov (.t 1)⟩,
      ⟨some 43, none, .slcT 0 3 (.t 41) (.t 42)⟩,
      ⟨some 44, none, .mov (.t 2)⟩,
      ⟨some 45, none, .bad⟩])
    (.seq (.draw [4, 8] [⟨some 46, none, .mov (.t 9)⟩,
      ⟨some 47, none, .mov (.t 1)⟩,
      ⟨some 48, none, .mov (.t 7)⟩,
      ⟨some 49, none, .bin false .add (.t 47) (.t 48)⟩,
      ⟨some 50, none, .slcT 0 3 (.t 46) (.t 49)⟩,
      ⟨some 51, none, .mov (.t 0)⟩,
      ⟨some 52, none, .mov (.t 1)⟩,
      ⟨some 53, none, .slcT 0 3 (.t 51) (.t 52)⟩,
      ⟨some 54, none, .bad⟩])
    (.seq (.region [⟨some 55, none, .mov (.t 9)⟩,
      ⟨some 6, none, .mov (.t 55)⟩])
    .ret))))
    .skip))
    (.seq (.region [⟨some 56, none, .mov (.t 0)⟩,
      ⟨some 57, none, .mov (.t 8)⟩,
      ⟨some 58, none, .mov (.t 7)⟩,
      ⟨some 59, none, .bin false .add (.t 57) (.t 58)⟩,
      ⟨some 60, none, .slcH 3 (.t 56) (.t 59)⟩,
      ⟨some 0, none, .mov (.t 60)⟩])
    (.seq (.seq (.region [⟨some 61, none, .mov (.t 2)⟩,
      ⟨some 62, none, .mov (.t 0)⟩,
      ⟨some 63, none, .mov (.t 1)⟩,
      ⟨some 64, none, .mov (.t 7)⟩,
      ⟨some 65, none, .bin false .add (.t 63) (.t 64)⟩,
      ⟨some 66, none, .slcT 0 3 (.t 62) (.t 65)⟩,
      ⟨some 67, none, .bad⟩,
      ⟨some 68, none, .un .not (.t 67)⟩])
    (.cond (.t 68) (.seq (.draw [4, 8] [⟨some 69, none, .mov (.t 0)⟩,
      ⟨some 70, none, .mov (.t 1)⟩,
      ⟨some 71, none, .mov (.t 7)⟩,
      ⟨some 72, none, .bin false .add (.t 70) (.t 71)⟩,
      ⟨some 73, none, .slcT 0 3 (.t 69) (.t 72)⟩,
      ⟨some 74, none, .mov (.t 0)⟩,
      ⟨some 75, none, .mov (.t 1)⟩,
      ⟨some 76, none, .slcT 0 3 (.t 74) (.t 75)⟩,
      ⟨some 77, none, .bad⟩])
    (.seq (.region [⟨some 78, none, .mov (.t 0)⟩,
      ⟨some 79, none, .mov (.t 1)⟩,
      ⟨some 80, none, .slcT 0 3 (.t 78) (.t 79)⟩,
      ⟨some 81, none, .mov (.t 2)⟩,
      ⟨some 82, none, .bad⟩])
    (.seq (.region [⟨some 83, none, .mov (.t 0)⟩,
      ⟨some 6, none, .mov (.t 83)⟩])
    .ret)))
    .skip))
    (.seq (.region [⟨some 84, none, .mov (.t 0)⟩,
      ⟨some 85, none, .mov (.t 8)⟩,
      ⟨some 86, none, .slcT 0 3 (.t 84) (.t 85)⟩,
      ⟨some 87, none, .mov (.t 2)⟩,
      ⟨some 88, none, .bad⟩])
    (.seq (.region [⟨some 89, none, .mov (.t 0)⟩,
      ⟨some 90, none, .mov (.t 1)⟩,
      ⟨some 91, none, .slcT 0 3 (.t 89) (.t 90)⟩,
      ⟨some 92, none, .mov (.t 7)⟩,
      ⟨some 93, none, .call i_slices_rotateRight_api_Field [.t 91, .t 92]⟩])
    (.seq (.region [⟨some 94, none, .mov (.t 0)⟩,
      ⟨some 6, none, .mov (.t 94)⟩])
    .ret)))))))))))), [.tmp 6]⟩
theorem T_slices_Insert_api_Field_api_Field : trFn Tryz.prog [(1, [0, 0, 1000]), (9, [0, 0, 901, 0, 0, 0, 0, 0, 0, 0]), (10, [0, 0, 1000, 0, 0]), (11, [0, 0, 0, 0, 1000, 0, 0, 1000, 0]), (13, [0, 0, 0, 0, 901, 0]), (14, [0, 0, 0, 0, 0, 1000, 0, 0]), (15, [0, 0, 0, 0, 1000, 0, 0, 1000, 0]), (16, [0, 0, 1000, 0, 0]), (18, [0, 0, 1000, 0, 0]), (19, [0, 0, 1000, 0, 0]), (1000011, [4, 8]), (1000015, [4, 8])] Tryz.f206 = some A_slices_Insert_api_Field_api_Field := by kernel_rfl
theorem L_slices_Insert_api_Field_api_Field : 3 ≤ Tryz.f206.ntmps := by decide

/-! cartouche/wire.PutTag -/
def A_wire_PutTag : AFn := ⟨(.seq (.region [⟨some 4, none, .mov (.c (.nil))⟩,
      ⟨some 5, none, .mov (.c (.int .i64 0))⟩])
    (.seq (.block 0 (.seq (.region [⟨some 7, none, .mov (.t 0)⟩,
      ⟨some 8, none, .bin false .lss (.t 7) (.c (.int .i64 1))⟩,
      ⟨some 9, none, .mov (.t 8)⟩,
      ⟨some 10, some (9, false), .mov (.t 0)⟩,
      ⟨some 11, some (9, false), .bin false .gtr (.t 10) (.c (.int .i64 536870911))⟩,
      ⟨some 12, none, .pickb (.t 9) (.c (.bool true)) (.t 11)⟩,
      ⟨some 6, none, .mov (.t 12)⟩])
    (.cond (.t 6) (.seq (.region [⟨some 4, none, .mov (.c (.nil))⟩,
      ⟨some 5, none, .mov (.c (.int .i64 5))⟩])
    .ret)
    (.seq (.region [⟨some 14, none, .mov (.t 1)⟩,
      ⟨some 15, none, .call i_wire_isKind [.t 14]⟩,
      ⟨some 16, none, .un .not (.t 15)⟩,
      ⟨some 13, none, .mov (.t 16)⟩])
    (.cond (.t 13) (.seq (.region [⟨some 4, none, .mov (.c (.nil))⟩,
      ⟨some 5, none, .mov (.c (.int .i64 6))⟩])
    .ret)
    .skip)))))
    (.seq (.region [⟨some 17, none, .mov (.t 0)⟩,
      ⟨some 18, none, .conv .u64 (.t 17)⟩,
      ⟨some 19, none, .bin false .mul (.t 18) (.c (.int .u64 8))⟩,
      ⟨some 20, none, .mov (.t 1)⟩,
      ⟨some 21, none, .conv .u64 (.t 20)⟩,
      ⟨some 22, none, .bin false .add (.t 19) (.t 21)⟩,
      ⟨some 23, none, .call i_wire_PutVarint [.t 22]⟩,
      ⟨some 4, none, .mov (.t 23)⟩,
      ⟨some 5, none, .mov (.c (.int .i64 0))⟩])
    .ret))), [.tmp 4, .tmp 5]⟩
theorem T_wire_PutTag : trFn Tryz.prog [] Tryz.f207 = some A_wire_PutTag := by kernel_rfl
theorem L_wire_PutTag : 2 ≤ Tryz.f207.ntmps := by decide

/-! cartouche/wire.GetTag -/
def A_wire_GetTag : AFn := ⟨(.seq (.region [⟨some 4, none, .mov (.c (.int .i64 0))⟩,
      ⟨some 5, none, .mov (.c (.int .i64 0))⟩,
      ⟨some 6, none, .mov (.c (.int .i64 0))⟩,
      ⟨some 7, none, .mov (.c (.int .i64 0))⟩])
    (.seq (.region [⟨some 10, none, .mov (.t 0)⟩,
      ⟨some 11, none, .mov (.t 1)⟩,
      ⟨some 12, none, .call i_wire_GetVarint [.t 10, .t 11]⟩,
      ⟨some 9, none, .mov (.t 12)⟩,
      ⟨some 13, none, .ext 0 (.t 9)⟩,
      ⟨some 14, none, .ext 1 (.t 9)⟩,
      ⟨some 15, none, .ext 2 (.t 9)⟩,
      ⟨some 8, none, .mov (.t 13)⟩,
      ⟨some 6, none, .mov (.t 14)⟩,
      ⟨some 7, none, .mov (.t 15)⟩])
    (.seq (.block 0 (.seq (.region [⟨some 17, none, .mov (.t 7)⟩,
      ⟨some 18, none, .bin false .neq (.t 17) (.c (.int .i64 0))⟩,
      ⟨some 16, none, .mov (.t 18)⟩])
    (.cond (.t 16) (.seq (.region [⟨some 19, none, .mov (.t 7)⟩,
      ⟨some 4, none, .mov (.c (.int .i64 0))⟩,
      ⟨some 5, none, .mov (.c (.int .i64 0))⟩,
      ⟨some 6, none, .mov (.c (.int .i64 0))⟩,
      ⟨some 7, none, .mov (.t 19)⟩])
    .ret)
    (.seq (.region [⟨some 21, none, .mov (.t 8)⟩,
      ⟨some 22, none, .bin false .quo (.t 21) (.c (.int .u64 8))⟩,
      ⟨some 23, none, .bin false .eql (.t 22) (.c (.int .u64 0))⟩,
      ⟨some 24, none, .mov (.t 23)⟩,
      ⟨some 25, some (24, false), .mov (.t 8)⟩,
      ⟨some 26, some (24, false), .bin false .quo (.t 25) (.c (.int .u64 8))⟩,
      ⟨some 27, some (24, false), .bin false .gtr (.t 26) (.c (.int .u64 536870911))⟩,
      ⟨some 28, none, .pickb (.t 24) (.c (.bool true)) (.t 27)⟩,
      ⟨some 20, none, .mov (.t 28)⟩])
    (.cond (.t 20) (.seq (.region [⟨some 4, none, .mov (.c (.int .i64 0))⟩,
      ⟨some 5, none, .mov (.c (.int .i64 0))⟩,
      ⟨some 6, none, .mov (.c (.int .i64 0))⟩,
      ⟨some 7, none, .mov (.c (.int .i64 5))⟩])
    .ret)
    (.seq (.region [⟨some 30, none, .mov (.t 8)⟩,
      ⟨some 31, none, .bin false .rem (.t 30) (.c (.int .u64 8))⟩,
      ⟨some 32, none, .conv .i64 (.t 31)⟩,
      ⟨some 33, none, .call i_wire_isKind [.t 32]⟩,
      ⟨some 34, none, .un .not (.t 33)⟩,
      ⟨some 29, none, .mov (.t 34)⟩])
    (.cond (.t 29) (.seq (.region [⟨some 4, none, .mov (.c (.int .i64 0))⟩,
      ⟨some 5, none, .mov (.c (.int .i64 0))⟩,
      ⟨some 6, none, .mov (.c (.int .i64 0))⟩,
      ⟨some 7, none, .mov (.c (.int .i64 6))⟩])
    .ret)
    .skip)))))))
    (.seq (.region [⟨some 35, none, .mov (.t 8)⟩,
      ⟨some 36, none, .bin false .quo (.t 35) (.c (.int .u64 8))⟩,
      ⟨some 37, none, .conv .i64 (.t 36)⟩,
      ⟨some 38, none, .mov (.t 8)⟩,
      ⟨some 39, none, .bin false .rem (.t 38) (.c (.int .u64 8))⟩,
      ⟨some 40, none, .conv .i64 (.t 39)⟩,
      ⟨some 41, none, .mov (.t 6)⟩,
      ⟨some 4, none, .mov (.t 37)⟩,
      ⟨some 5, none, .mov (.t 40)⟩,
      ⟨some 6, none, .mov (.t 41)⟩,
      ⟨some 7, none, .mov (.c (.int .i64 0))⟩])
    .ret)))), [.tmp 4, .tmp 5, .tmp 6, .tmp 7]⟩
theorem T_wire_GetTag : trFn Tryz.prog [] Tryz.f208 = some A_wire_GetTag := by kernel_rfl
theorem L_wire_GetTag : 2 ≤ Tryz.f208.ntmps := by decide

/-! cartouche/wire.read -/
def A_wire_read : AFn := ⟨(.seq (.region [⟨some 6, none, .mov (.c (.int .u64 0))⟩,
      ⟨some 7, none, .mov (.c (.int .i64 0))⟩,
      ⟨some 8, none, .mov (.c (.int .i64 0))⟩])
    (.seq (.block 0 (.seq (.region [⟨some 11, none, .mov (.t 0)⟩,
      ⟨some 12, none, .mov (.t 1)⟩,
      ⟨some 13, none, .call i_wire_place [.t 11, .t 12]⟩,
      ⟨some 14, none, .un .not (.t 13)⟩,
      ⟨some 10, none, .mov (.t 14)⟩])
    (.cond (.t 10) (.seq (.region [⟨some 6, none, .mov (.c (.int .u64 0))⟩,
      ⟨some 7, none, .mov (.c (.int .i64 0))⟩,
      ⟨some 8, none, .mov (.c (.int .i64 18))⟩])
    .ret)
    (.seq (.region [⟨some 16, none, .mov (.t 0)⟩,
      ⟨some 17, none, .len false (.t 16)⟩,
      ⟨some 18, none, .mov (.t 1)⟩,
      ⟨some 19, none, .bin false .sub (.t 17) (.t 18)⟩,
      ⟨some 20, none, .mov (.t 2)⟩,
      ⟨some 21, none, .bin false .lss (.t 19) (.t 20)⟩,
      ⟨some 15, none, .mov (.t 21)⟩])
    (.cond (.t 15) (.seq (.region [⟨some 6, none, .mov (.c (.int .u64 0))⟩,
      ⟨some 7, none, .mov (.c (.int .i64 0))⟩,
      ⟨some 8, none, .mov (.c (.int .i64 3))⟩])
    .ret)
    .skip)))))
    (.seq (.seq (.region [⟨some 22, none, .mov (.t 2)⟩,
      ⟨some 23, none, .mov (.c (.int .i64 0))⟩])
    (.block 1 (.loop (.seq (.region [⟨some 24, none, .bin false .lss (.t 23) (.t 22)⟩])
    (.seq (.cond (.t 24) .skip
    (.exit 1))
    (.seq (.block 2 (.seq (.region [⟨some 25, none, .mov (.t 23)⟩,
      ⟨some 9, none, .mov (.t 25)⟩])
    (.region [⟨some 26, none, .mov (.t 6)⟩,
      ⟨some 27, none, .mov (.t 0)⟩,
      ⟨some 28, none, .mov (.t 1)⟩,
      ⟨some 29, none, .mov (.t 9)⟩,
      ⟨some 30, none, .bin false .add (.t 28) (.t 29)⟩,
      ⟨some 31, none, .idxA 1 (.t 27) (.t 30)⟩,
      ⟨some 32, none, .load 1 false (.t 31)⟩,
      ⟨some 33, none, .conv .u64 (.t 32)⟩,
      ⟨some 34, none, .mov (.t 9)⟩,
      ⟨some 35, none, .bin false .mul (.c (.int .i64 8)) (.t 34)⟩,
      ⟨some 36, none, .bin false .shl (.t 33) (.t 35)⟩,
      ⟨some 37, none, .bin false .or (.t 26) (.t 36)⟩,
      ⟨some 6, none, .mov (.t 37)⟩])))
    (.region [⟨some 38, none, .bin false .add (.t 23) (.c (.int .i64 1))⟩,
      ⟨some 23, none, .mov (.t 38)⟩])))))))
    (.seq (.region [⟨some 39, none, .mov (.t 6)⟩,
      ⟨some 40, none, .mov (.t 1)⟩,
      ⟨some 41, none, .mov (.t 2)⟩,
      ⟨some 42, none, .bin false .add (.t 40) (.t 41)⟩,
      ⟨some 6, none, .mov (.t 39)⟩,
      ⟨some 7, none, .mov (.t 42)⟩,
      ⟨some 8, none, .mov (.c (.int .i64 0))⟩])
    .ret)))), [.tmp 6, .tmp 7, .tmp 8]⟩
theorem T_wire_read : trFn Tryz.prog [] Tryz.f209 = some A_wire_read := by kernel_rfl
theorem L_wire_read : 3 ≤ Tryz.f209.ntmps := by decide

/-! cartouche/wire.GetChunk -/
def A_wire_GetChunk : AFn := ⟨(.seq (.region [⟨some 4, none, .mov (.c (.nil))⟩,
      ⟨some 5, none, .mov (.c (.int .i64 0))⟩,
      ⟨some 6, none, .mov (.c (.int .i64 0))⟩])
    (.seq (.region [⟨some 10, none, .mov (.t 0)⟩,
      ⟨some 11, none, .mov (.t 1)⟩,
      ⟨some 12, none, .call i_wire_Span [.t 10, .t 11]⟩,
      ⟨some 9, none, .mov (.t 12)⟩,
      ⟨some 13, none, .ext 0 (.t 9)⟩,
      ⟨some 14, none, .ext 1 (.t 9)⟩,
      ⟨some 15, none, .ext 2 (.t 9)⟩,
      ⟨some 7, none, .mov (.t 13)⟩,
      ⟨some 8, none, .mov (.t 14)⟩,
      ⟨some 6, none, .mov (.t 15)⟩])
    (.seq (.seq (.region [⟨some 16, none, .mov (.t 6)⟩,
      ⟨some 17, none, .bin false .neq (.t 16) (.c (.int .i64 0))⟩])
    (.cond (.t 17) (.seq (.region [⟨some 18, none, .mov (.t 6)⟩,
      ⟨some 4, none, .mov (.c (.nil))⟩,
      ⟨some 5, none, .mov (.c (.int .i64 0))⟩,
      ⟨some 6, none, .mov (.t 18)⟩])
    .ret)
    .skip))
    (.seq (.draw [3, 8] [⟨some 19, none, .mov (.t 8)⟩,
      ⟨some 20, none, .mov (.t 7)⟩,
      ⟨some 21, none, .bin false .sub (.t 19) (.t 20)⟩,
      ⟨some 22, none, .mks 0 5 1 1 (.int .u8 0) (.c (.int .i64 0)) (.t 21)⟩,
      ⟨some 23, none, .mov (.t 0)⟩,
      ⟨some 24, none, .mov (.t 7)⟩,
      ⟨some 25, none, .mov (.t 8)⟩,
      ⟨some 26, none, .slc 1 (.t 23) (some (.t 24)) (some (.t 25)) none⟩,
      ⟨some 27, none, .app 0 5 1 1 (.t 22) (.t 26)⟩,
      ⟨some 28, none, .mov (.t 8)⟩,
      ⟨some 4, none, .mov (.t 27)⟩,
      ⟨some 5, none, .mov (.t 28)⟩,
      ⟨some 6, none, .mov (.c (.int .i64 0))⟩])
    .ret)))), [.tmp 4, .tmp 5, .tmp 6]⟩
theorem T_wire_GetChunk : trFn Tryz.prog [(1000004, [3, 8])] Tryz.f210 = some A_wire_GetChunk := by kernel_rfl
theorem L_wire_GetChunk : 2 ≤ Tryz.f210.ntmps := by decide

/-! math/bits.Len64 -/
def A_bits_Len64 : AFn := ⟨(.seq (.region [⟨some 2, none, .mov (.c (.int .i64 0))⟩])
    (.seq (.seq (.region [⟨some 3, none, .mov (.t 0)⟩,
      ⟨some 4, none, .bin false .geq (.t 3) (.c (.int .u64 4294967296))⟩])
    (.cond (.t 4) (.seq (.region [⟨some 5, none, .mov (.t 0)⟩,
      ⟨some 6, none, .bin false .shr (.t 5) (.c (.int .u64 32))⟩,
      ⟨some 0, none, .mov (.t 6)⟩])
    (.region [⟨some 2, none, .mov (.c (.int .i64 32))⟩]))
    .skip))
    (.seq (.seq (.region [⟨some 7, none, .mov (.t 0)⟩,
      ⟨some 8, none, .bin false .geq (.t 7) (.c (.int .u64 65536))⟩])
    (.cond (.t 8) (.seq (.region [⟨some 9, none, .mov (.t 0)⟩,
      ⟨some 10, none, .bin false .shr (.t 9) (.c (.int .u64 16))⟩,
      ⟨some 0, none, .mov (.t 10)⟩])
    (.region [⟨some 11, none, .mov (.t 2)⟩,
      ⟨some 12, none, .bin false .add (.t 11) (.c (.int .i64 16))⟩,
      ⟨some 2, none, .mov (.t 12)⟩]))
    .skip))
    (.seq (.seq (.region [⟨some 13, none, .mov (.t 0)⟩,
      ⟨some 14, none, .bin false .geq (.t 13) (.c (.int .u64 256))⟩])
    (.cond (.t 14) (.seq (.region [⟨some 15, none, .mov (.t 0)⟩,
      ⟨some 16, none, .bin false .shr (.t 15) (.c (.int .u64 8))⟩,
      ⟨some 0, none, .mov (.t 16)⟩])
    (.region [⟨some 17, none, .mov (.t 2)⟩,
      ⟨some 18, none, .bin false .add (.t 17) (.c (.int .i64 8))⟩,
      ⟨some 2, none, .mov (.t 18)⟩]))
    .skip))
    (.seq (.region [⟨some 19, none, .mov (.t 2)⟩,
      ⟨some 20, none, .mov (.t 0)⟩,
      ⟨some 21, none, .conv .u8 (.t 20)⟩,
      ⟨some 22, none, .idxS (.c (.str ⟨#[0, 1, 2, 2, 3, 3, 3, 3, 4, 4, 4, 4, 4, 4, 4, 4, 5, 5, 5, 5, 5, 5, 5, 5, 5, 5, 5, 5, 5, 5, 5, 5, 6, 6, 6, 6, 6, 6, 6, 6, 6, 6, 6, 6, 6, 6, 6, 6, 6, 6, 6, 6, 6, 6, 6, 6, 6, 6, 6, 6, 6, 6, 6, 6, 7, 7, 7, 7, 7, 7, 7, 7, 7, 7, 7, 7, 7, 7, 7, 7, 7, 7, 7, 7, 7, 7, 7, 7, 7, 7, 7, 7, 7, 7, 7, 7, 7, 7, 7, 7, 7, 7, 7, 7, 7, 7, 7, 7, 7, 7, 7, 7, 7, 7, 7, 7, 7, 7, 7, 7, 7, 7, 7, 7, 7, 7, 7, 7, 8, 8, 8, 8, 8, 8, 8, 8, 8, 8, 8, 8, 8, 8, 8, 8, 8, 8, 8, 8, 8, 8, 8, 8, 8, 8, 8, 8, 8, 8, 8, 8, 8, 8, 8, 8, 8, 8, 8, 8, 8, 8, 8, 8, 8, 8, 8, 8, 8, 8, 8, 8, 8, 8, 8, 8, 8, 8, 8, 8, 8, 8, 8, 8, 8, 8, 8, 8, 8, 8, 8, 8, 8, 8, 8, 8, 8, 8, 8, 8, 8, 8, 8, 8, 8, 8, 8, 8, 8, 8, 8, 8, 8, 8, 8, 8, 8, 8, 8, 8, 8, 8, 8, 8, 8, 8, 8, 8, 8, 8, 8, 8, 8, 8, 8, 8, 8, 8, 8, 8, 8, 8, 8, 8, 8, 8, 8, 8]⟩)) (.t 21)⟩,
      ⟨some 23, none, .conv .i64 (.t 22)⟩,
      ⟨some 24, none, .bin false .add (.t 19) (.t 23)⟩,
      ⟨some 2, none, .mov (.t 24)⟩])
    .ret))))), [.tmp 2]⟩
theorem T_bits_Len64 : trFn Tryz.prog [] Tryz.f211 = some A_bits_Len64 := by kernel_rfl
theorem L_bits_Len64 : 1 ≤ Tryz.f211.ntmps := by decide

/-! cartouche/wire.place -/
def A_wire_place : AFn := ⟨(.seq (.region [⟨some 4, none, .mov (.c (.bool false))⟩])
    (.seq (.region [⟨some 5, none, .mov (.t 1)⟩,
      ⟨some 6, none, .bin false .geq (.t 5) (.c (.int .i64 0))⟩,
      ⟨some 7, none, .mov (.t 6)⟩,
      ⟨some 8, some (7, true), .mov (.t 1)⟩,
      ⟨some 9, some (7, true), .mov (.t 0)⟩,
      ⟨some 10, some (7, true), .len false (.t 9)⟩,
      ⟨some 11, some (7, true), .bin false .leq (.t 8) (.t 10)⟩,
      ⟨some 12, none, .pickb (.t 7) (.t 11) (.c (.bool false))⟩,
      ⟨some 4, none, .mov (.t 12)⟩])
    .ret)), [.tmp 4]⟩
theorem T_wire_place : trFn Tryz.prog [] Tryz.f212 = some A_wire_place := by kernel_rfl
theorem L_wire_place : 2 ≤ Tryz.f212.ntmps := by decide

/-! cartouche/model.typedVal -/
def A_model_typedVal : AFn := ⟨(.seq (.region [⟨some 4, none, .box 0 (.t 0)⟩,
      ⟨some 7, none, .box 0 (.t 3)⟩,
      ⟨some 8, none, .mov (.c (.bool false))⟩])
    (.seq (.seq (.region [⟨some 11, none, .mov (.t 1)⟩])
    (.block 0 (.seq (.region [⟨some 13, none, .bin false .eql (.t 11) (.c (.int .i64 17))⟩,
      ⟨some 12, none, .mov (.t 13)⟩])
    (.cond (.t 12) (.seq (.draw [1, 5, 6, 11, 12, 16, 22, 1000019, 1000020, 1000021, 2000022] [⟨some 14, none, .fldA 0 1 false (.t 7)⟩,
      ⟨some 15, none, .load 1 false (.t 14)⟩,
      ⟨some 16, none, .bin false .eql (.t 15) (.c (.int .u64 0))⟩,
      ⟨some 17, none, .mov (.t 16)⟩,
      ⟨some 18, some (17, true), .fldA 1 1 false (.t 7)⟩,
      ⟨some 19, some (17, true), .load 1 false (.t 18)⟩,
      ⟨some 20, some (17, true), .len false (.t 19)⟩,
      ⟨some 21, some (17, true), .bin false .eql (.t 20) (.c (.int .i64 0))⟩,
      ⟨some 22, none, .pickb (.t 17) (.t 21) (.c (.bool false))⟩,
      ⟨some 23, none, .mov (.t 22)⟩,
      ⟨some 24, some (23, true), .fldA 2 1 false (.t 7)⟩,
      ⟨some 25, some (23, true), .load 1 false (.t 24)⟩,
      ⟨some 26, some (23, true), .len false (.t 25)⟩,
      ⟨some 27, some (23, true), .bin false .eql (.t 26) (.c (.int .i64 1))⟩,
      ⟨some 28, none, .pickb (.t 23) (.t 27) (.c (.bool false))⟩,
      ⟨some 29, none, .mov (.t 28)⟩,
      ⟨some 30, some (29, true), .load 1 true (.t 4)⟩,
      ⟨some 31, some (29, true), .mov (.t 2)⟩,
      ⟨some 32, some (29, true), .fldA 2 1 false (.t 7)⟩,
      ⟨some 33, some (29, true), .load 1 false (.t 32)⟩,
      ⟨some 34, some (29, true), .idxA 2 (.t 33) (.c (.int .i64 0))⟩,
      ⟨some 35, some (29, true), .load 2 true (.t 34)⟩,
      ⟨some 36, some (29, true), .call i_model_typed [.t 30, .t 31, .t 35]⟩,
      ⟨some 37, none, .pickb (.t 29) (.t 36) (.c (.bool false))⟩,
      ⟨some 8, none, .mov (.t 37)⟩])
    .ret)
    (.seq (.region [⟨some 39, none, .bin false .eql (.t 11) (.c (.int .i64 16))⟩,
      ⟨some 38, none, .mov (.t 39)⟩])
    (.cond (.t 38) (.seq (.seq (.region [⟨some 40, none, .mov (.t 1)⟩,
      ⟨some 41, none, .load 3 true (.t 7)⟩,
      ⟨some 42, none, .call i_scalar_Fits [.t 40, .t 41]⟩,
      ⟨some 43, none, .un .not (.t 42)⟩])
    (.cond (.t 43) (.seq (.region [⟨some 8, none, .mov (.c (.bool false))⟩])
    .ret)
    .skip))
    (.seq (.draw [1, 3, 4, 8, 1000006, 2000008] [⟨some 45, none, .fldA 0 1 false (.t 4)⟩,
      ⟨some 46, none, .load 1 false (.t 45)⟩,
      ⟨some 47, none, .mov (.t 2)⟩,
      ⟨some 48, none, .idxA 6 (.t 46) (.t 47)⟩,
      ⟨some 49, none, .load 6 true (.t 48)⟩,
      ⟨some 50, none, .fldA 0 1 false (.t 7)⟩,
      ⟨some 51, none, .load 1 false (.t 50)⟩,
      ⟨some 52, none, .conv .i64 (.t 51)⟩,
      ⟨some 53, none, .call i_table_SymbolAt [.t 49, .t 52]⟩,
      ⟨some 44, none, .mov (.t 53)⟩,
      ⟨some 54, none, .ext 0 (.t 44)⟩,
      ⟨some 55, none, .ext 1 (.t 44)⟩,
      ⟨some 9, none, .mov (.t 54)⟩,
      ⟨some 10, none, .mov (.t 55)⟩])
    (.seq (.region [⟨some 56, none, .mov (.t 10)⟩,
      ⟨some 8, none, .mov (.t 56)⟩])
    .ret)))
    (.seq (.region [⟨some 58, none, .bin false .eql (.t 11) (.c (.int .i64 14))⟩,
      ⟨some 57, none, .mov (.t 58)⟩])
    (.cond (.t 57) (.seq (.region [⟨some 59, none, .mov (.t 1)⟩,
      ⟨some 60, none, .load 3 true (.t 7)⟩,
      ⟨some 61, none, .call i_scalar_Fits [.t 59, .t 60]⟩,
      ⟨some 62, none, .mov (.t 61)⟩,
      ⟨some 63, some (62, true), .fldA 1 1 false (.t 7)⟩,
      ⟨some 64, some (62, true), .load 1 false (.t 63)⟩,
      ⟨some 65, some (62, true), .call i_quote_Valid [.t 64]⟩,
      ⟨some 66, none, .pickb (.t 62) (.t 65) (.c (.bool false))⟩,
      ⟨some 8, none, .mov (.t 66)⟩])
    .ret)
    .skip))))))))
    (.seq (.region [⟨some 67, none, .mov (.t 1)⟩,
      ⟨some 68, none, .load 3 true (.t 7)⟩,
      ⟨some 69, none, .call i_scalar_Fits [.t 67, .t 68]⟩,
      ⟨some 8, none, .mov (.t 69)⟩])
    .ret))), [.tmp 8]⟩
theorem T_model_typedVal : trFn Tryz.prog [(0, [1, 1, 0]), (1000003, [1, 5, 6, 11, 12, 16, 22, 1000019, 1000020, 1000021, 2000022]), (1000007, [1, 3, 4, 8, 1000006, 2000008])] Tryz.f216 = some A_model_typedVal := by kernel_rfl
theorem L_model_typedVal : 4 ≤ Tryz.f216.ntmps := by decide

/-! cartouche/scalar.Compare -/
def A_scalar_Compare : AFn := ⟨(.seq (.region [⟨some 4, none, .box 0 (.t 1)⟩,
      ⟨some 5, none, .box 0 (.t 2)⟩,
      ⟨some 6, none, .mov (.c (.int .i64 0))⟩,
      ⟨some 7, none, .mov (.c (.int .i64 0))⟩])
    (.seq (.block 0 (.seq (.region [⟨some 9, none, .mov (.t 0)⟩,
      ⟨some 10, none, .call i_scalar_IsKey [.t 9]⟩,
      ⟨some 11, none, .un .not (.t 10)⟩,
      ⟨some 8, none, .mov (.t 11)⟩])
    (.cond (.t 8) (.seq (.region [⟨some 6, none, .mov (.c (.int .i64 0))⟩,
      ⟨some 7, none, .mov (.c (.int .i64 18))⟩])
    .ret)
    (.seq (.region [⟨some 13, none, .mov (.t 0)⟩,
      ⟨some 14, none, .load 3 true (.t 4)⟩,
      ⟨some 15, none, .call i_scalar_Fits [.t 13, .t 14]⟩,
      ⟨some 16, none, .un .not (.t 15)⟩,
      ⟨some 17, none, .mov (.t 16)⟩,
      ⟨some 18, some (17, false), .mov (.t 0)⟩,
      ⟨some 19, some (17, false), .load 3 true (.t 5)⟩,
      ⟨some 20, some (17, false), .call i_scalar_Fits [.t 18, .t 19]⟩,
      ⟨some 21, some (17, false), .un .not (.t 20)⟩,
      ⟨some 22, none, .pickb (.t 17) (.c (.bool true)) (.t 21)⟩,
      ⟨some 12, none, .mov (.t 22)⟩])
    (.cond (.t 12) (.seq (.region [⟨some 6, none, .mov (.c (.int .i64 0))⟩,
      ⟨some 7, none, .mov (.c (.int .i64 7))⟩])
    .ret)
    (.seq (.region [⟨some 24, none, .mov (.t 0)⟩,
      ⟨some 25, none, .bin false .eql (.t 24) (.c (.int .i64 14))⟩,
      ⟨some 23, none, .mov (.t 25)⟩])
    (.cond (.t 23) (.seq (.region [⟨some 26, none, .fldA 1 1 false (.t 4)⟩,
      ⟨some 27, none, .load 1 false (.t 26)⟩,
      ⟨some 28, none, .fldA 1 1 false (.t 5)⟩,
      ⟨some 29, none, .load 1 false (.t 28)⟩,
      ⟨some 30, none, .call i_bytes_Compare [.t 27, .t 29]⟩,
      ⟨some 6, none, .mov (.t 30)⟩,
      ⟨some 7, none, .mov (.c (.int .i64 0))⟩])
    .ret)
    (.seq (.region [⟨some 32, none, .mov (.t 0)⟩,
      ⟨some 33, none, .call i_scalar_signed [.t 32]⟩,
      ⟨some 31, none, .mov (.t 33)⟩])
    (.cond (.t 31) (.seq (.region [⟨some 34, none, .fldA 0 1 false (.t 4)⟩,
      ⟨some 35, none, .load 1 false (.t 34)⟩,
      ⟨some 36, none, .conv .i64 (.t 35)⟩,
      ⟨some 37, none, .fldA 0 1 false (.t 5)⟩,
      ⟨some 38, none, .load 1 false (.t 37)⟩,
      ⟨some 39, none, .conv .i64 (.t 38)⟩,
      ⟨some 40, none, .call i_cmp_Compare_int64 [.t 36, .t 39]⟩,
      ⟨some 6, none, .mov (.t 40)⟩,
      ⟨some 7, none, .mov (.c (.int .i64 0))⟩])
    .ret)
    .skip)))))))))
    (.seq (.region [⟨some 41, none, .fldA 0 1 false (.t 4)⟩,
      ⟨some 42, none, .load 1 false (.t 41)⟩,
      ⟨some 43, none, .fldA 0 1 false (.t 5)⟩,
      ⟨some 44, none, .load 1 false (.t 43)⟩,
      ⟨some 45, none, .call i_cmp_Compare_uint64 [.t 42, .t 44]⟩,
      ⟨some 6, none, .mov (.t 45)⟩,
      ⟨some 7, none, .mov (.c (.int .i64 0))⟩])
    .ret))), [.tmp 6, .tmp 7]⟩
theorem T_scalar_Compare : trFn Tryz.prog [(0, [1, 1, 0, 0])] Tryz.f217 = some A_scalar_Compare := by kernel_rfl
theorem L_scalar_Compare : 3 ≤ Tryz.f217.ntmps := by decide

/-! cartouche/model.typedField$1 -/
def A_model_typedField_1 : AFn := ⟨(.seq (.region [⟨some 3, none, .box 0 (.t 0)⟩,
      ⟨some 4, none, .mov (.c (.bool false))⟩])
    (.seq (.region [⟨some 5, none, .load 1 true (.t 1)⟩,
      ⟨some 6, none, .fldA 2 1 false (.t 2)⟩,
      ⟨some 7, none, .load 1 false (.t 6)⟩,
      ⟨some 8, none, .fldA 3 1 false (.t 2)⟩,
      ⟨some 9, none, .load 1 false (.t 8)⟩,
      ⟨some 10, none, .load 3 true (.t 3)⟩,
      ⟨some 11, none, .call i_model_typedVal [.t 5, .t 7, .t 9, .t 10]⟩,
      ⟨some 12, none, .un .not (.t 11)⟩,
      ⟨some 4, none, .mov (.t 12)⟩])
    .ret)), [.tmp 4]⟩
theorem T_model_typedField_1 : trFn Tryz.prog [(0, [1, 0])] Tryz.f218 = some A_model_typedField_1 := by kernel_rfl
theorem L_model_typedField_1 : 3 ≤ Tryz.f218.ntmps := by decide

/-! slices.IndexFunc[[]cartouche/api.Val,cartouche/api.Val] -/
def A_slices_IndexFunc_api_Val_api_Val : AFn := ⟨(.seq (.region [⟨some 4, none, .mov (.c (.int .i64 0))⟩])
    (.seq (.seq (.region [⟨some 6, none, .mov (.t 0)⟩,
      ⟨some 7, none, .len false (.t 6)⟩,
      ⟨some 8, none, .mov (.c (.int .i64 0))⟩])
    (.block 0 (.loop (.seq (.region [⟨some 9, none, .bin false .lss (.t 8) (.t 7)⟩])
    (.seq (.cond (.t 9) .skip
    (.exit 0))
    (.seq (.block 1 (.seq (.region [⟨some 10, none, .mov (.t 8)⟩,
      ⟨some 5, none, .mov (.t 10)⟩])
    (.seq (.region [⟨some 11, none, .mov (.t 1)⟩,
      ⟨some 12, none, .mov (.t 0)⟩,
      ⟨some 13, none, .mov (.t 5)⟩,
      ⟨some 14, none, .idxA 3 (.t 12) (.t 13)⟩,
      ⟨some 15, none, .load 3 true (.t 14)⟩,
      ⟨some 16, none, .callv (.t 11) [.t 15]⟩])
    (.cond (.t 16) (.seq (.region [⟨some 17, none, .mov (.t 5)⟩,
      ⟨some 4, none, .mov (.t 17)⟩])
    .ret)
    .skip))))
    (.region [⟨some 18, none, .bin false .add (.t 8) (.c (.int .i64 1))⟩,
      ⟨some 8, none, .mov (.t 18)⟩])))))))
    (.seq (.region [⟨some 4, none, .mov (.c (.int .i64 (-1)))⟩])
    .ret))), [.tmp 4]⟩
theorem T_slices_IndexFunc_api_Val_api_Val : trFn Tryz.prog [] Tryz.f219 = some A_slices_IndexFunc_api_Val_api_Val := by kernel_rfl
theorem L_slices_IndexFunc_api_Val_api_Val : 2 ≤ Tryz.f219.ntmps := by decide

/-! cartouche/table.HasRow -/
def A_table_HasRow : AFn := ⟨(.seq (.region [⟨some 1, none, .box 0 (.t 0)⟩,
      ⟨some 2, none, .mov (.c (.bool false))⟩])
    (.seq (.region [⟨some 3, none, .fldA 4 1 false (.t 1)⟩,
      ⟨some 4, none, .load 1 false (.t 3)⟩,
      ⟨some 5, none, .bin false .eql (.t 4) (.c (.int .i64 2))⟩,
      ⟨some 6, none, .mov (.t 5)⟩,
      ⟨some 7, some (6, false), .fldA 4 1 false (.t 1)⟩,
      ⟨some 8, some (6, false), .load 1 false (.t 7)⟩,
      ⟨some 9, some (6, false), .bin false .eql (.t 8) (.c (.int .i64 3))⟩,
      ⟨some 10, none, .pickb (.t 6) (.c (.bool true)) (.t 9)⟩,
      ⟨some 11, none, .mov (.t 10)⟩,
      ⟨some 12, some (11, true), .fldA 2 1 false (.t 1)⟩,
      ⟨some 13, some (11, true), .load 1 false (.t 12)⟩,
      ⟨some 14, some (11, true), .call i_scalar_Numeric [.t 13]⟩,
      ⟨some 15, none, .pickb (.t 11) (.t 14) (.c (.bool false))⟩,
      ⟨some 2, none, .mov (.t 15)⟩])
    .ret)), [.tmp 2]⟩
theorem T_table_HasRow : trFn Tryz.prog [(0, [1, 0])] Tryz.f220 = some A_table_HasRow := by kernel_rfl
theorem L_table_HasRow : 1 ≤ Tryz.f220.ntmps := by decide

/-! cartouche/model.each[cartouche/api.Msg] -/
def A_model_each_api_Msg : AFn := ⟨(.seq (.region [⟨some 4, none, .mov (.c (.nil))⟩])
    (.seq (.region [⟨some 8, none, .mov (.t 0)⟩,
      ⟨some 9, none, .len false (.t 8)⟩,
      ⟨some 10, none, .mks 0 35 2 48 (.agg [.nil, .nil]) (.c (.int .i64 0)) (.t 9)⟩,
      ⟨some 5, none, .mov (.t 10)⟩])
    (.seq (.seq (.region [⟨some 11, none, .mov (.t 0)⟩,
      ⟨some 12, none, .len false (.t 11)⟩,
      ⟨some 13, none, .mov (.c (.int .i64 0))⟩])
    (.block 0 (.loop (.seq (.region [⟨some 14, none, .bin false .lss (.t 13) (.t 12)⟩])
    (.seq (.cond (.t 14) .skip
    (.exit 0))
    (.seq (.block 1 (.seq (.region [⟨some 15, none, .idxA 2 (.t 11) (.t 13)⟩,
      ⟨some 16, none, .load 2 true (.t 15)⟩,
      ⟨some 7, none, .alloc 0 [.nil, .nil]⟩,
      ⟨none, none, .store 2 (.t 7) (.t 16)⟩])
    (.region [⟨some 17, none, .mov (.t 5)⟩,
      ⟨some 18, none, .mov (.t 1)⟩,
      ⟨some 19, none, .load 2 true (.t 7)⟩,
      ⟨some 20, none, .callv (.t 18) [.t 19]⟩,
      ⟨some 21, none, .blit 0 35 2 [.t 20]⟩,
      ⟨some 22, none, .app 0 35 2 48 (.t 17) (.t 21)⟩,
      ⟨some 5, none, .mov (.t 22)⟩])))
    (.region [⟨some 23, none, .bin false .add (.t 13) (.c (.int .i64 1))⟩,
      ⟨some 13, none, .mov (.t 23)⟩])))))))
    (.seq (.region [⟨some 24, none, .mov (.t 5)⟩,
      ⟨some 4, none, .mov (.t 24)⟩])
    .ret)))), [.tmp 4]⟩
theorem T_model_each_api_Msg : trFn Tryz.prog [(4, [0, 0, 1, 0]), (5, [0, 0, 0, 0, 1, 0, 0])] Tryz.f221 = some A_model_each_api_Msg := by kernel_rfl
theorem L_model_each_api_Msg : 2 ≤ Tryz.f221.ntmps := by decide

/-! slices.Index[[]int,int] -/
def A_slices_Index_int_int : AFn := ⟨(.seq (.region [⟨some 4, none, .mov (.c (.int .i64 0))⟩])
    (.seq (.seq (.region [⟨some 6, none, .mov (.t 0)⟩,
      ⟨some 7, none, .len false (.t 6)⟩,
      ⟨some 8, none, .mov (.c (.int .i64 0))⟩])
    (.block 0 (.loop (.seq (.region [⟨some 9, none, .bin false .lss (.t 8) (.t 7)⟩])
    (.seq (.cond (.t 9) .skip
    (.exit 0))
    (.seq (.block 1 (.seq (.region [⟨some 10, none, .mov (.t 8)⟩,
      ⟨some 5, none, .mov (.t 10)⟩])
    (.seq (.region [⟨some 11, none, .mov (.t 1)⟩,
      ⟨some 12, none, .mov (.t 0)⟩,
      ⟨some 13, none, .mov (.t 5)⟩,
      ⟨some 14, none, .idxA 1 (.t 12) (.t 13)⟩,
      ⟨some 15, none, .load 1 false (.t 14)⟩,
      ⟨some 16, none, .bin false .eql (.t 11) (.t 15)⟩])
    (.cond (.t 16) (.seq (.region [⟨some 17, none, .mov (.t 5)⟩,
      ⟨some 4, none, .mov (.t 17)⟩])
    .ret)
    .skip))))
    (.region [⟨some 18, none, .bin false .add (.t 8) (.c (.int .i64 1))⟩,
      ⟨some 8, none, .mov (.t 18)⟩])))))))
    (.seq (.region [⟨some 4, none, .mov (.c (.int .i64 (-1)))⟩])
    .ret))), [.tmp 4]⟩
theorem T_slices_Index_int_int : trFn Tryz.prog [] Tryz.f222 = some A_slices_Index_int_int := by kernel_rfl
theorem L_slices_Index_int_int : 2 ≤ Tryz.f222.ntmps := by decide

/-! slices.BinarySearchFunc[[]cartouche/api.Field,cartouche/api.Field,int] -/
def A_slices_BinarySearchFunc_api_Field_api_Field_int : AFn := ⟨(.seq (.region [⟨some 6, none, .mov (.c (.int .i64 0))⟩,
      ⟨some 7, none, .mov (.c (.bool false))⟩])
    (.seq (.region [⟨some 12, none, .mov (.t 0)⟩,
      ⟨some 13, none, .len false (.t 12)⟩,
      ⟨some 8, none, .mov (.t 13)⟩])
    (.seq (.region [⟨some 14, none, .mov (.t 8)⟩,
      ⟨some 9, none, .mov (.c (.int .i64 0))⟩,
      ⟨some 10, none, .mov (.t 14)⟩])
    (.seq (.block 0 (.loop (.seq (.seq (.region [⟨some 15, none, .mov (.t 9)⟩,
      ⟨some 16, none, .mov (.t 10)⟩,
      ⟨some 17, none, .bin false .lss (.t 15) (.t 16)⟩])
    (.cond (.t 17) .skip
    (.exit 0)))
    (.block 1 (.seq (.region [⟨some 18, none, .mov (.t 9)⟩,
      ⟨some 19, none, .mov (.t 10)⟩,
      ⟨some 20, none, .bin false .add (.t 18) (.t 19)⟩,
      ⟨some 21, none, .conv .u64 (.t 20)⟩,
      ⟨some 22, none, .bin false .shr (.t 21) (.c (.int .u64 1))⟩,
      ⟨some 23, none, .conv .i64 (.t 22)⟩,
      ⟨some 11, none, .mov (.t 23)⟩])
    (.seq (.region [⟨some 24, none, .mov (.t 2)⟩,
      ⟨some 25, none, .mov (.t 0)⟩,
      ⟨some 26, none, .mov (.t 11)⟩,
      ⟨some 27, none, .idxA 3 (.t 25) (.t 26)⟩,
      ⟨some 28, none, .load 3 true (.t 27)⟩,
      ⟨some 29, none, .mov (.t 1)⟩,
      ⟨some 30, none, .callv (.t 24) [.t 28, .t 29]⟩,
      ⟨some 31, none, .bin false .lss (.t 30) (.c (.int .i64 0))⟩])
    (.cond (.t 31) (.region [⟨some 32, none, .mov (.t 11)⟩,
      ⟨some 33, none, .bin false .add (.t 32) (.c (.int .i64 1))⟩,
      ⟨some 9, none, .mov (.t 33)⟩])
    (.region [⟨some 34, none, .mov (.t 11)⟩,
      ⟨some 10, none, .mov (.t 34)⟩]))))))))
    (.seq (.region [⟨some 35, none, .mov (.t 9)⟩,
      ⟨some 36, none, .mov (.t 9)⟩,
      ⟨some 37, none, .mov (.t 8)⟩,
      ⟨some 38, none, .bin false .lss (.t 36) (.t 37)⟩,
      ⟨some 39, none, .mov (.t 38)⟩,
      ⟨some 40, some (39, true), .mov (.t 2)⟩,
      ⟨some 41, some (39, true), .mov (.t 0)⟩,
      ⟨some 42, some (39, true), .mov (.t 9)⟩,
      ⟨some 43, some (39, true), .idxA 3 (.t 41) (.t 42)⟩,
      ⟨some 44, some (39, true), .load 3 true (.t 43)⟩,
      ⟨some 45, some (39, true), .mov (.t 1)⟩,
      ⟨some 46, some (39, true), .callv (.t 40) [.t 44, .t 45]⟩,
      ⟨some 47, some (39, true), .bin false .eql (.t 46) (.c (.int .i64 0))⟩,
      ⟨some 48, none, .pickb (.t 39) (.t 47) (.c (.bool false))⟩,
      ⟨some 6, none, .mov (.t 35)⟩,
      ⟨some 7, none, .mov (.t 48)⟩])
    .ret))))), [.tmp 6, .tmp 7]⟩
theorem T_slices_BinarySearchFunc_api_Field_api_Field_int : trFn Tryz.prog [] Tryz.f223 = some A_slices_BinarySearchFunc_api_Field_api_Field_int := by kernel_rfl
theorem L_slices_BinarySearchFunc_api_Field_api_Field_int : 3 ≤ Tryz.f223.ntmps := by decide

/-! cartouche/model.Place$1 -/
def A_model_Place_1 : AFn := ⟨(.seq (.region [⟨some 2, none, .box 0 (.t 0)⟩,
      ⟨some 4, none, .mov (.c (.int .i64 0))⟩])
    (.seq (.region [⟨some 5, none, .fldA 0 1 false (.t 2)⟩,
      ⟨some 6, none, .load 1 false (.t 5)⟩,
      ⟨some 7, none, .mov (.t 1)⟩,
      ⟨some 8, none, .bin false .sub (.t 6) (.t 7)⟩,
      ⟨some 4, none, .mov (.t 8)⟩])
    .ret)), [.tmp 4]⟩
theorem T_model_Place_1 : trFn Tryz.prog [(0, [1, 0])] Tryz.f224 = some A_model_Place_1 := by kernel_rfl
theorem L_model_Place_1 : 2 ≤ Tryz.f224.ntmps := by decide

/-! slices.Insert[[]cartouche/api.Val,cartouche/api.Val] -/
def A_slices_Insert_api_Val_api_Val : AFn := ⟨(.seq (.region [⟨some 6, none, .mov (.c (.nil))⟩])
    (.seq (.region [⟨some 10, none, .mov (.t 0)⟩,
      ⟨some 11, none, .mov (.t 1)⟩,
      ⟨some 12, none, .slcT 0 3 (.t 10) (.t 11)⟩])
    (.seq (.region [⟨some 13, none, .mov (.t 2)⟩,
      ⟨some 14, none, .len false (.t 13)⟩,
      ⟨some 7, none, .mov (.t 14)⟩])
    (.seq (.seq (.region [⟨some 15, none, .mov (.t 7)⟩,
      ⟨some 16, none, .bin false .eql (.t 15) (.c (.int .i64 0))⟩])
    (.cond (.t 16) (.seq (.region [⟨some 17, none, .mov (.t 0)⟩,
      ⟨some 6, none, .mov (.t 17)⟩])
    .ret)
    .skip))
    (.seq (.region [⟨some 18, none, .mov (.t 0)⟩,
      ⟨some 19, none, .len false (.t 18)⟩,
      ⟨some 8, none, .mov (.t 19)⟩])
    (.seq (.seq (.region [⟨some 20, none, .mov (.t 1)⟩,
      ⟨some 21, none, .mov (.t 8)⟩,
      ⟨some 22, none, .bin false .eql (.t 20) (.t 21)⟩])
    (.cond (.t 22) (.seq (.region [⟨some 23, none, .mov (.t 0)⟩,
      ⟨some 24, none, .mov (.t 2)⟩,
      ⟨some 25, none, .app 0 26 3 56 (.t 23) (.t 24)⟩,
      ⟨some 6, none, .mov (.t 25)⟩])
    .ret)
    .skip))
    (.seq (.seq (.region [⟨some 26, none, .mov (.t 8)⟩,
      ⟨some 27, none, .mov (.t 7)⟩,
      ⟨some 28, none, .bin false .add (.t 26) (.t 27)⟩,
      ⟨some 29, none, .mov (.t 0)⟩,
      ⟨some 30, none, .bad⟩,
      ⟨some 31, none, .bin false .gtr (.t 28) (.t 30)⟩])
    (.cond (.t 31) (.seq (.region [⟨some 32, none, .mov (.t 0)⟩,
      ⟨some 33, none, .mov (.t 1)⟩,
      ⟨some 34, none, .slcH 3 (.t 32) (.t 33)⟩,
      ⟨some 35, none, .mov (.t 8)⟩,
      ⟨some 36, none, .mov (.t 7)⟩,
      ⟨some 37, none, .bin false .add (.t 35) (.t 36)⟩,
      ⟨some 38, none, .mov (.t 1)⟩,
      ⟨some 39, none, .bin false .sub (.t 37) (.t 38)⟩,
      ⟨some 40, none, .bad⟩,
      ⟨some 9, none, .mov (.t 40)⟩])
    (.seq (.region [⟨some 41, none, .mov (.t 9)⟩,
      ⟨some 42, none, .mov (.t 1)⟩,
      ⟨some 43, none, .slcT 0 3 (.t 41) (.t 42)⟩,
      ⟨some 44, none, .mov (.t 2)⟩,
      ⟨some 45, none, .bad⟩])
    (.seq (.draw [4, 8] [⟨some 46, none, .mov (.t 9)⟩,
      ⟨some 47, none, .mov (.t 1)⟩,
      ⟨some 48, none, .mov (.t 7)⟩,
      ⟨some 49, none, .bin false .add (.t 47) (.t 48)⟩,
      ⟨some 50, none, .slcT 0 3 (.t 46) (.t 49)⟩,
      ⟨some 51, none, .mov (.t 0)⟩,
      ⟨some 52, none, .mov (.t 1)⟩,
      ⟨some 53, none, .slcT 0 3 (.t 51) (.t 52)⟩,
      ⟨some 54, none, .bad⟩])
    (.seq (.region [⟨some 55, none, .mov (.t 9)⟩,
      ⟨some 6, none, .mov (.t 55)⟩])
    .ret))))
    .skip))
    (.seq (.region [⟨some 56, none, .mov (.t 0)⟩,
      ⟨some 57, none, .mov (.t 8)⟩,
      ⟨some 58, none, .mov (.t 7)⟩,
      ⟨some 59, none, .bin false .add (.t 57) (.t 58)⟩,
      ⟨some 60, none, .slcH 3 (.t 56) (.t 59)⟩,
      ⟨some 0, none, .mov (.t 60)⟩])
    (.seq (.seq (.region [⟨some 61, none, .mov (.t 2)⟩,
      ⟨some 62, none, .mov (.t 0)⟩,
      ⟨some 63, none, .mov (.t 1)⟩,
      ⟨some 64, none, .mov (.t 7)⟩,
      ⟨some 65, none, .bin false .add (.t 63) (.t 64)⟩,
      ⟨some 66, none, .slcT 0 3 (.t 62) (.t 65)⟩,
      ⟨some 67, none, .bad⟩,
      ⟨some 68, none, .un .not (.t 67)⟩])
    (.cond (.t 68) (.seq (.draw [4, 8] [⟨some 69, none, .mov (.t 0)⟩,
      ⟨some 70, none, .mov (.t 1)⟩,
      ⟨some 71, none, .mov (.t 7)⟩,
      ⟨some 72, none, .bin false .add (.t 70) (.t 71)⟩,
      ⟨some 73, none, .slcT 0 3 (.t 69) (.t 72)⟩,
      ⟨some 74, none, .mov (.t 0)⟩,
      ⟨some 75, none, .mov (.t 1)⟩,
      ⟨some 76, none, .slcT 0 3 (.t 74) (.t 75)⟩,
      ⟨some 77, none, .bad⟩])
    (.seq (.region [⟨some 78, none, .mov (.t 0)⟩,
      ⟨some 79, none, .mov (.t 1)⟩,
      ⟨some 80, none, .slcT 0 3 (.t 78) (.t 79)⟩,
      ⟨some 81, none, .mov (.t 2)⟩,
      ⟨some 82, none, .bad⟩])
    (.seq (.region [⟨some 83, none, .mov (.t 0)⟩,
      ⟨some 6, none, .mov (.t 83)⟩])
    .ret)))
    .skip))
    (.seq (.region [⟨some 84, none, .mov (.t 0)⟩,
      ⟨some 85, none, .mov (.t 8)⟩,
      ⟨some 86, none, .slcT 0 3 (.t 84) (.t 85)⟩,
      ⟨some 87, none, .mov (.t 2)⟩,
      ⟨some 88, none, .bad⟩])
    (.seq (.region [⟨some 89, none, .mov (.t 0)⟩,
      ⟨some 90, none, .mov (.t 1)⟩,
      ⟨some 91, none, .slcT 0 3 (.t 89) (.t 90)⟩,
      ⟨some 92, none, .mov (.t 7)⟩,
      ⟨some 93, none, .call i_slices_rotateRight_api_Val [.t 91, .t 92]⟩])
    (.seq (.region [⟨some 94, none, .mov (.t 0)⟩,
      ⟨some 6, none, .mov (.t 94)⟩])
    .ret)))))))))))), [.tmp 6]⟩
theorem T_slices_Insert_api_Val_api_Val : trFn Tryz.prog [(1, [0, 0, 1000]), (9, [0, 0, 901, 0, 0, 0, 0, 0, 0, 0]), (10, [0, 0, 1000, 0, 0]), (11, [0, 0, 0, 0, 1000, 0, 0, 1000, 0]), (13, [0, 0, 0, 0, 901, 0]), (14, [0, 0, 0, 0, 0, 1000, 0, 0]), (15, [0, 0, 0, 0, 1000, 0, 0, 1000, 0]), (16, [0, 0, 1000, 0, 0]), (18, [0, 0, 1000, 0, 0]), (19, [0, 0, 1000, 0, 0]), (1000011, [4, 8]), (1000015, [4, 8])] Tryz.f227 = some A_slices_Insert_api_Val_api_Val := by kernel_rfl
theorem L_slices_Insert_api_Val_api_Val : 3 ≤ Tryz.f227.ntmps := by decide

/-! cartouche/scalar.Put -/
def A_scalar_Put : AFn := ⟨(.seq (.region [⟨some 3, none, .box 0 (.t 1)⟩,
      ⟨some 4, none, .mov (.c (.nil))⟩,
      ⟨some 5, none, .mov (.c (.int .i64 0))⟩])
    (.seq (.seq (.region [⟨some 9, none, .mov (.t 0)⟩,
      ⟨some 10, none, .load 3 true (.t 3)⟩,
      ⟨some 11, none, .call i_scalar_may [.t 9, .t 10]⟩,
      ⟨some 6, none, .mov (.t 11)⟩])
    (.seq (.region [⟨some 12, none, .mov (.t 6)⟩,
      ⟨some 13, none, .bin false .neq (.t 12) (.c (.int .i64 0))⟩])
    (.cond (.t 13) (.seq (.region [⟨some 14, none, .mov (.t 6)⟩,
      ⟨some 4, none, .mov (.c (.nil))⟩,
      ⟨some 5, none, .mov (.t 14)⟩])
    .ret)
    .skip)))
    (.seq (.region [⟨some 16, none, .mov (.t 0)⟩,
      ⟨some 17, none, .call i_scalar_Wire [.t 16]⟩,
      ⟨some 15, none, .mov (.t 17)⟩,
      ⟨some 18, none, .ext 0 (.t 15)⟩,
      ⟨some 19, none, .ext 1 (.t 15)⟩,
      ⟨some 7, none, .mov (.t 18)⟩,
      ⟨some 8, none, .mov (.t 19)⟩])
    (.seq (.block 0 (.seq (.region [⟨some 21, none, .mov (.t 7)⟩,
      ⟨some 22, none, .bin false .eql (.t 21) (.c (.int .i64 2))⟩,
      ⟨some 20, none, .mov (.t 22)⟩])
    (.cond (.t 20) (.seq (.region [⟨some 23, none, .fldA 1 1 false (.t 3)⟩,
      ⟨some 24, none, .load 1 false (.t 23)⟩,
      ⟨some 25, none, .call i_wire_PutChunk [.t 24]⟩,
      ⟨some 4, none, .mov (.t 25)⟩,
      ⟨some 5, none, .mov (.c (.int .i64 0))⟩])
    .ret)
    (.seq (.region [⟨some 27, none, .mov (.t 7)⟩,
      ⟨some 28, none, .bin false .eql (.t 27) (.c (.int .i64 5))⟩,
      ⟨some 26, none, .mov (.t 28)⟩])
    (.cond (.t 26) (.seq (.region [⟨some 29, none, .fldA 0 1 false (.t 3)⟩,
      ⟨some 30, none, .load 1 false (.t 29)⟩,
      ⟨some 31, none, .conv .u32 (.t 30)⟩,
      ⟨some 32, none, .call i_wire_PutFix32 [.t 31]⟩,
      ⟨some 4, none, .mov (.t 32)⟩,
      ⟨some 5, none, .mov (.c (.int .i64 0))⟩])
    .ret)
    (.seq (.region [⟨some 34, none, .mov (.t 7)⟩,
      ⟨some 35, none, .bin false .eql (.t 34) (.c (.int .i64 1))⟩,
      ⟨some 33, none, .mov (.t 35)⟩])
    (.cond (.t 33) (.seq (.region [⟨some 36, none, .fldA 0 1 false (.t 3)⟩,
      ⟨some 37, none, .load 1 false (.t 36)⟩,
      ⟨some 38, none, .call i_wire_PutFix64 [.t 37]⟩,
      ⟨some 4, none, .mov (.t 38)⟩,
      ⟨some 5, none, .mov (.c (.int .i64 0))⟩])
    .ret)
    (.seq (.region [⟨some 40, none, .mov (.t 0)⟩,
      ⟨some 41, none, .bin false .eql (.t 40) (.c (.int .i64 6))⟩,
      ⟨some 42, none, .mov (.t 41)⟩,
      ⟨some 43, some (42, false), .mov (.t 0)⟩,
      ⟨some 44, some (42, false), .bin false .eql (.t 43) (.c (.int .i64 7))⟩,
      ⟨some 45, none, .pickb (.t 42) (.c (.bool true)) (.t 44)⟩,
      ⟨some 39, none, .mov (.t 45)⟩])
    (.cond (.t 39) (.seq (.region [⟨some 46, none, .fldA 0 1 false (.t 3)⟩,
      ⟨some 47, none, .load 1 false (.t 46)⟩,
      ⟨some 48, none, .conv .i64 (.t 47)⟩,
      ⟨some 49, none, .call i_wire_ZigZag [.t 48]⟩,
      ⟨some 50, none, .call i_wire_PutVarint [.t 49]⟩,
      ⟨some 4, none, .mov (.t 50)⟩,
      ⟨some 5, none, .mov (.c (.int .i64 0))⟩])
    .ret)
    .skip)))))))))
    (.seq (.region [⟨some 51, none, .fldA 0 1 false (.t 3)⟩,
      ⟨some 52, none, .load 1 false (.t 51)⟩,
      ⟨some 53, none, .call i_wire_PutVarint [.t 52]⟩,
      ⟨some 4, none, .mov (.t 53)⟩,
      ⟨some 5, none, .mov (.c (.int .i64 0))⟩])
    .ret))))), [.tmp 4, .tmp 5]⟩
theorem T_scalar_Put : trFn Tryz.prog [(0, [1, 0, 0])] Tryz.f232 = some A_scalar_Put := by kernel_rfl
theorem L_scalar_Put : 2 ≤ Tryz.f232.ntmps := by decide

/-! cartouche/interp.must -/
def A_interp_must : AFn := ⟨(.seq (.region [⟨some 2, none, .mov (.t 0)⟩,
      ⟨some 3, none, .bin false .neq (.t 2) (.c (.int .i64 0))⟩])
    (.cond (.t 3) (.region [⟨some 4, none, .mov (.t 0)⟩,
      ⟨some 5, none, .mkif 41 (.t 4)⟩,
      ⟨none, none, .panicA (.t 5)⟩])
    .skip)), []⟩
theorem T_interp_must : trFn Tryz.prog [] Tryz.f233 = some A_interp_must := by kernel_rfl
theorem L_interp_must : 1 ≤ Tryz.f233.ntmps := by decide

/-! (*cartouche/interp.cursor).within -/
def A_interp_cursor_within : AFn := ⟨(.seq (.region [⟨some 6, none, .box 0 (.t 1)⟩,
      ⟨some 9, none, .box 0 (.t 4)⟩,
      ⟨some 10, none, .alloc 0 [.int .u64 0, .nil, .nil]⟩])
    (.seq (.region [⟨some 12, none, .mov (.t 0)⟩,
      ⟨some 13, none, .call i_interp_cursor_chunk [.t 12]⟩,
      ⟨some 11, none, .mov (.t 13)⟩])
    (.seq (.seq (.region [⟨some 14, none, .mov (.t 3)⟩,
      ⟨some 15, none, .bin false .eql (.t 14) (.c (.int .i64 16))⟩])
    (.cond (.t 15) (.region [⟨some 16, none, .call i_interp_must [.c (.int .i64 2)]⟩])
    .skip))
    (.seq (.region [⟨some 17, none, .mov (.t 11)⟩,
      ⟨some 18, none, .load 1 true (.t 6)⟩,
      ⟨some 19, none, .mov (.t 2)⟩,
      ⟨some 20, none, .mov (.t 3)⟩,
      ⟨some 21, none, .bin false .add (.t 20) (.c (.int .i64 1))⟩,
      ⟨some 22, none, .load 2 true (.t 9)⟩,
      ⟨some 23, none, .call i_interp_cursor_message [.t 17, .t 18, .t 19, .t 21, .t 22]⟩,
      ⟨some 24, none, .blit 0 35 2 [.t 23]⟩,
      ⟨some 25, none, .build [.int .u64 0, .nil, .nil] [(2, 1, .t 24)]⟩,
      ⟨none, none, .store 3 (.t 10) (.t 25)⟩])
    .ret)))), [.cell 10 3 true]⟩
theorem T_interp_cursor_within : trFn Tryz.prog [(0, [1, 1, 1]), (4, [0, 0, 0, 0, 0, 0, 0, 1, 0, 0])] Tryz.f234 = some A_interp_cursor_within := by kernel_rfl
theorem L_interp_cursor_within : 5 ≤ Tryz.f234.ntmps := by decide

/-! (*cartouche/interp.cursor).scalar -/
def A_interp_cursor_scalar : AFn := ⟨(.seq (.region [⟨some 5, none, .box 0 (.t 1)⟩,
      ⟨some 8, none, .alloc 0 [.int .u64 0, .nil, .nil]⟩])
    (.seq (.draw [14, 15, 1000004, 1000008, 2000015] [⟨some 15, none, .mov (.t 2)⟩,
      ⟨some 16, none, .mov (.t 0)⟩,
      ⟨some 17, none, .nilck (.t 16)⟩,
      ⟨some 18, none, .fldA 0 1 false (.t 17)⟩,
      ⟨some 19, none, .load 1 false (.t 18)⟩,
      ⟨some 20, none, .mov (.t 0)⟩,
      ⟨some 21, none, .nilck (.t 20)⟩,
      ⟨some 22, none, .fldA 1 1 false (.t 21)⟩,
      ⟨some 23, none, .load 1 false (.t 22)⟩,
      ⟨some 24, none, .call i_scalar_Get [.t 15, .t 19, .t 23]⟩,
      ⟨some 14, none, .mov (.t 24)⟩,
      ⟨some 25, none, .ext 0 (.t 14)⟩,
      ⟨some 26, none, .ext 1 (.t 14)⟩,
      ⟨some 27, none, .ext 2 (.t 14)⟩,
      ⟨some 9, none, .alloc 0 [.int .u64 0, .nil, .nil]⟩,
      ⟨none, none, .store 3 (.t 9) (.t 25)⟩,
      ⟨some 10, none, .mov (.t 26)⟩,
      ⟨some 11, none, .mov (.t 27)⟩])
    (.seq (.region [⟨some 28, none, .mov (.t 11)⟩,
      ⟨some 29, none, .call i_interp_must [.t 28]⟩])
    (.seq (.region [⟨some 30, none, .mov (.t 0)⟩,
      ⟨some 31, none, .mov (.t 10)⟩,
      ⟨some 32, none, .nilck (.t 30)⟩,
      ⟨some 33, none, .fldA 1 1 false (.t 32)⟩,
      ⟨none, none, .store 1 (.t 33) (.t 31)⟩])
    (.seq (.seq (.region [⟨some 34, none, .mov (.t 2)⟩,
      ⟨some 35, none, .bin false .eql (.t 34) (.c (.int .i64 16))⟩])
    (.cond (.t 35) (.seq (.draw [1, 3, 4, 8, 1000006, 2000008] [⟨some 37, none, .fldA 0 1 false (.t 5)⟩,
      ⟨some 38, none, .load 1 false (.t 37)⟩,
      ⟨some 39, none, .mov (.t 3)⟩,
      ⟨some 40, none, .idxA 6 (.t 38) (.t 39)⟩,
      ⟨some 41, none, .load 6 true (.t 40)⟩,
      ⟨some 42, none, .fldA 0 1 false (.t 9)⟩,
      ⟨some 43, none, .load 1 false (.t 42)⟩,
      ⟨some 44, none, .conv .i64 (.t 43)⟩,
      ⟨some 45, none, .call i_table_SymbolAt [.t 41, .t 44]⟩,
      ⟨some 36, none, .mov (.t 45)⟩,
      ⟨some 46, none, .ext 0 (.t 36)⟩,
      ⟨some 47, none, .ext 1 (.t 36)⟩,
      ⟨some 12, none, .mov (.t 46)⟩,
      ⟨some 13, none, .mov (.t 47)⟩])
    (.seq (.region [⟨some 48, none, .mov (.t 13)⟩,
      ⟨some 49, none, .un .not (.t 48)⟩])
    (.cond (.t 49) (.region [⟨some 50, none, .call i_interp_must [.c (.int .i64 9)]⟩])
    .skip)))
    .skip))
    (.seq (.region [⟨some 51, none, .load 3 true (.t 9)⟩,
      ⟨none, none, .store 3 (.t 8) (.t 51)⟩])
    .ret)))))), [.cell 8 3 true]⟩
theorem T_interp_cursor_scalar : trFn Tryz.prog [(0, [1, 1]), (1, [0, 0, 0, 0, 0, 0, 0, 0, 0, 0, 0, 0, 0, 0, 1, 0, 0, 0]), (1000001, [14, 15, 1000004, 1000008, 2000015]), (1000005, [1, 3, 4, 8, 1000006, 2000008])] Tryz.f235 = some A_interp_cursor_scalar := by kernel_rfl
theorem L_interp_cursor_scalar : 4 ≤ Tryz.f235.ntmps := by decide

/-! cartouche/interp.field -/
def A_interp_field : AFn := ⟨(.seq (.region [⟨some 4, none, .mov (.c (.nilp))⟩])
    (.seq (.region [⟨some 8, none, .mov (.t 0)⟩,
      ⟨some 9, none, .nilck (.t 8)⟩,
      ⟨some 10, none, .fldA 0 1 false (.t 9)⟩,
      ⟨some 11, none, .load 1 false (.t 10)⟩,
      ⟨some 12, none, .mov (.t 1)⟩,
      ⟨some 13, none, .call i_model_Place [.t 11, .t 12]⟩,
      ⟨some 7, none, .mov (.t 13)⟩,
      ⟨some 14, none, .ext 0 (.t 7)⟩,
      ⟨some 15, none, .ext 1 (.t 7)⟩,
      ⟨some 5, none, .mov (.t 14)⟩,
      ⟨some 6, none, .mov (.t 15)⟩])
    (.seq (.seq (.region [⟨some 16, none, .mov (.t 6)⟩,
      ⟨some 17, none, .un .not (.t 16)⟩])
    (.cond (.t 17) (.region [⟨some 18, none, .mov (.t 0)⟩,
      ⟨some 19, none, .mov (.t 0)⟩,
      ⟨some 20, none, .nilck (.t 19)⟩,
      ⟨some 21, none, .fldA 0 1 false (.t 20)⟩,
      ⟨some 22, none, .load 1 false (.t 21)⟩,
      ⟨some 23, none, .mov (.t 5)⟩,
      ⟨some 24, none, .mov (.t 1)⟩,
      ⟨some 25, none, .build [.int .i64 0, .nil, .nil] [(0, 1, .t 24)]⟩,
      ⟨some 26, none, .blit 0 29 3 [.t 25]⟩,
      ⟨some 27, none, .call i_slices_Insert_api_Field_api_Field [.t 22, .t 23, .t 26]⟩,
      ⟨some 28, none, .nilck (.t 18)⟩,
      ⟨some 29, none, .fldA 0 1 false (.t 28)⟩,
      ⟨none, none, .store 1 (.t 29) (.t 27)⟩])
    .skip))
    (.seq (.region [⟨some 30, none, .mov (.t 0)⟩,
      ⟨some 31, none, .nilck (.t 30)⟩,
      ⟨some 32, none, .fldA 0 1 false (.t 31)⟩,
      ⟨some 33, none, .load 1 false (.t 32)⟩,
      ⟨some 34, none, .mov (.t 5)⟩,
      ⟨some 35, none, .idxA 3 (.t 33) (.t 34)⟩,
      ⟨some 4, none, .mov (.t 35)⟩])
    .ret)))), [.tmp 4]⟩
theorem T_interp_field : trFn Tryz.prog [(3, [0, 0, 0, 0, 0, 0, 0, 0, 1, 0, 0, 0, 0])] Tryz.f236 = some A_interp_field := by kernel_rfl
theorem L_interp_field : 2 ≤ Tryz.f236.ntmps := by decide

/-! (*cartouche/interp.cursor).value -/
def A_interp_cursor_value : AFn := ⟨(.seq (.region [⟨some 6, none, .box 0 (.t 1)⟩,
      ⟨some 10, none, .alloc 0 [.int .u64 0, .nil, .nil]⟩])
    (.seq (.seq (.region [⟨some 11, none, .mov (.t 2)⟩,
      ⟨some 12, none, .bin false .eql (.t 11) (.c (.int .i64 17))⟩])
    (.cond (.t 12) (.seq (.region [⟨some 13, none, .mov (.t 0)⟩,
      ⟨some 14, none, .load 1 true (.t 6)⟩,
      ⟨some 15, none, .mov (.t 3)⟩,
      ⟨some 16, none, .mov (.t 4)⟩,
      ⟨some 17, none, .build [.nil, .nil] []⟩,
      ⟨some 18, none, .call i_interp_cursor_within [.t 13, .t 14, .t 15, .t 16, .t 17]⟩,
      ⟨none, none, .store 3 (.t 10) (.t 18)⟩])
    .ret)
    .skip))
    (.seq (.region [⟨some 19, none, .mov (.t 0)⟩,
      ⟨some 20, none, .load 1 true (.t 6)⟩,
      ⟨some 21, none, .mov (.t 2)⟩,
      ⟨some 22, none, .mov (.t 3)⟩,
      ⟨some 23, none, .call i_interp_cursor_scalar [.t 19, .t 20, .t 21, .t 22]⟩,
      ⟨none, none, .store 3 (.t 10) (.t 23)⟩])
    .ret))), [.cell 10 3 true]⟩
theorem T_interp_cursor_value : trFn Tryz.prog [(0, [1, 1])] Tryz.f237 = some A_interp_cursor_value := by kernel_rfl
theorem L_interp_cursor_value : 5 ≤ Tryz.f237.ntmps := by decide

/-! (*cartouche/interp.cursor).put$1 -/
def A_interp_cursor_put_1 : AFn := ⟨(.seq (.region [⟨some 2, none, .box 0 (.t 0)⟩,
      ⟨some 3, none, .mov (.c (.bool false))⟩])
    (.seq (.region [⟨some 4, none, .load 1 false (.t 1)⟩,
      ⟨some 5, none, .fldA 0 1 false (.t 2)⟩,
      ⟨some 6, none, .load 1 false (.t 5)⟩,
      ⟨some 7, none, .call i_slices_Contains_int_int [.t 4, .t 6]⟩,
      ⟨some 3, none, .mov (.t 7)⟩])
    .ret)), [.tmp 3]⟩
theorem T_interp_cursor_put_1 : trFn Tryz.prog [(0, [1, 0])] Tryz.f238 = some A_interp_cursor_put_1 := by kernel_rfl
theorem L_interp_cursor_put_1 : 2 ≤ Tryz.f238.ntmps := by decide

/-! (*cartouche/interp.cursor).pair -/
def A_interp_cursor_pair : AFn := ⟨(.seq (.region [⟨some 5, none, .box 0 (.t 1)⟩,
      ⟨some 6, none, .box 0 (.t 2)⟩,
      ⟨some 8, none, .alloc 0 [.int .u64 0, .nil, .nil]⟩,
      ⟨some 9, none, .alloc 0 [.int .u64 0, .nil, .nil]⟩])
    (.seq (.region [⟨some 18, none, .mov (.t 0)⟩,
      ⟨some 19, none, .call i_interp_cursor_chunk [.t 18]⟩,
      ⟨some 10, none, .mov (.t 19)⟩])
    (.seq (.region [⟨some 20, none, .fldA 2 1 false (.t 6)⟩,
      ⟨some 21, none, .load 1 false (.t 20)⟩,
      ⟨some 22, none, .call i_interp_Default [.t 21]⟩,
      ⟨none, none, .store 3 (.t 9) (.t 22)⟩])
    (.seq (.region [⟨some 24, none, .fldA 6 1 false (.t 6)⟩,
      ⟨some 25, none, .load 1 false (.t 24)⟩,
      ⟨some 26, none, .call i_scalar_Wire [.t 25]⟩,
      ⟨some 23, none, .mov (.t 26)⟩,
      ⟨some 27, none, .ext 0 (.t 23)⟩,
      ⟨some 28, none, .ext 1 (.t 23)⟩,
      ⟨some 11, none, .mov (.t 27)⟩,
      ⟨some 12, none, .mov (.t 28)⟩])
    (.seq (.region [⟨some 30, none, .fldA 2 1 false (.t 6)⟩,
      ⟨some 31, none, .load 1 false (.t 30)⟩,
      ⟨some 32, none, .call i_scalar_Wire [.t 31]⟩,
      ⟨some 29, none, .mov (.t 32)⟩,
      ⟨some 33, none, .ext 0 (.t 29)⟩,
      ⟨some 34, none, .ext 1 (.t 29)⟩,
      ⟨some 13, none, .mov (.t 33)⟩,
      ⟨some 14, none, .mov (.t 34)⟩])
    (.seq (.region [⟨some 35, none, .fldA 2 1 false (.t 6)⟩,
      ⟨some 36, none, .load 1 false (.t 35)⟩,
      ⟨some 37, none, .bin false .eql (.t 36) (.c (.int .i64 17))⟩,
      ⟨some 15, none, .mov (.t 37)⟩])
    (.seq (.block 0 (.loop (.seq (.seq (.region [⟨some 38, none, .mov (.t 10)⟩,
      ⟨some 39, none, .call i_interp_cursor_done [.t 38]⟩,
      ⟨some 40, none, .un .not (.t 39)⟩])
    (.cond (.t 40) .skip
    (.exit 0)))
    (.block 1 (.seq (.region [⟨some 42, none, .mov (.t 10)⟩,
      ⟨some 43, none, .call i_interp_cursor_tag [.t 42]⟩,
      ⟨some 41, none, .mov (.t 43)⟩,
      ⟨some 44, none, .ext 0 (.t 41)⟩,
      ⟨some 45, none, .ext 1 (.t 41)⟩,
      ⟨some 16, none, .mov (.t 44)⟩,
      ⟨some 17, none, .mov (.t 45)⟩])
    (.block 2 (.seq (.region [⟨some 51, none, .mov (.t 16)⟩,
      ⟨some 52, none, .bin false .eql (.t 51) (.c (.int .i64 1))⟩,
      ⟨some 53, none, .mov (.t 52)⟩,
      ⟨some 54, some (53, true), .mov (.t 17)⟩,
      ⟨some 55, some (53, true), .mov (.t 11)⟩,
      ⟨some 56, some (53, true), .bin false .eql (.t 54) (.t 55)⟩,
      ⟨some 57, none, .pickb (.t 53) (.t 56) (.c (.bool false))⟩,
      ⟨some 50, none, .mov (.t 57)⟩])
    (.cond (.t 50) (.region [⟨some 58, none, .mov (.t 10)⟩,
      ⟨some 59, none, .load 1 true (.t 5)⟩,
      ⟨some 60, none, .fldA 6 1 false (.t 6)⟩,
      ⟨some 61, none, .load 1 false (.t 60)⟩,
      ⟨some 62, none, .call i_interp_cursor_scalar [.t 58, .t 59, .t 61, .c (.int .i64 0)]⟩,
      ⟨none, none, .store 3 (.t 8) (.t 62)⟩])
    (.seq (.region [⟨some 64, none, .mov (.t 16)⟩,
      ⟨some 65, none, .bin false .eql (.t 64) (.c (.int .i64 2))⟩,
      ⟨some 66, none, .mov (.t 65)⟩,
      ⟨some 67, some (66, true), .mov (.t 17)⟩,
      ⟨some 68, some (66, true), .mov (.t 13)⟩,
      ⟨some 69, some (66, true), .bin false .eql (.t 67) (.t 68)⟩,
      ⟨some 70, none, .pickb (.t 66) (.t 69) (.c (.bool false))⟩,
      ⟨some 63, none, .mov (.t 70)⟩])
    (.cond (.t 63) (.region [⟨some 71, none, .mov (.t 10)⟩,
      ⟨some 72, none, .load 1 true (.t 5)⟩,
      ⟨some 73, none, .fldA 2 1 false (.t 6)⟩,
      ⟨some 74, none, .load 1 false (.t 73)⟩,
      ⟨some 75, none, .fldA 3 1 false (.t 6)⟩,
      ⟨some 76, none, .load 1 false (.t 75)⟩,
      ⟨some 77, none, .mov (.t 3)⟩,
      ⟨some 78, none, .call i_interp_cursor_value [.t 71, .t 72, .t 74, .t 76, .t 77]⟩,
      ⟨none, none, .store 3 (.t 9) (.t 78)⟩,
      ⟨some 15, none, .mov (.c (.bool false))⟩])
    (.region [⟨some 46, none, .mov (.t 10)⟩,
      ⟨some 47, none, .mov (.t 16)⟩,
      ⟨some 48, none, .mov (.t 17)⟩,
      ⟨some 49, none, .call i_interp_cursor_rest [.t 46, .t 47, .t 48]⟩])))))))))))
    (.seq (.seq (.region [⟨some 79, none, .mov (.t 15)⟩,
      ⟨some 80, none, .mov (.t 79)⟩,
      ⟨some 81, some (80, true), .mov (.t 3)⟩,
      ⟨some 82, some (80, true), .bin false .eql (.t 81) (.c (.int .i64 16))⟩,
      ⟨some 83, none, .pickb (.t 80) (.t 82) (.c (.bool false))⟩])
    (.cond (.t 83) (.region [⟨some 84, none, .call i_interp_must [.c (.int .i64 2)]⟩])
    .skip))
    (.seq (.draw [0, 2, 3, 1000001, 2000003] [⟨some 85, none, .load 3 true (.t 8)⟩,
      ⟨some 86, none, .load 3 true (.t 9)⟩,
      ⟨none, none, .store 3 (.t 8) (.t 85)⟩,
      ⟨none, none, .store 3 (.t 9) (.t 86)⟩])
    .ret))))))))), [.cell 8 3 true, .cell 9 3 true]⟩
theorem T_interp_cursor_pair : trFn Tryz.prog [(0, [1, 1, 1, 1]), (1000015, [0, 2, 3, 1000001, 2000003])] Tryz.f239 = some A_interp_cursor_pair := by kernel_rfl
theorem L_interp_cursor_pair : 4 ≤ Tryz.f239.ntmps := by decide

/-! cartouche/interp.laid -/
def A_interp_laid : AFn := ⟨(.seq (.region [⟨some 4, none, .box 0 (.t 0)⟩,
      ⟨some 6, none, .box 0 (.t 2)⟩,
      ⟨some 7, none, .box 0 (.t 3)⟩])
    (.seq (.seq (.region [⟨some 12, none, .mov (.t 1)⟩,
      ⟨some 13, none, .nilck (.t 12)⟩,
      ⟨some 14, none, .fldA 1 1 false (.t 13)⟩,
      ⟨some 15, none, .load 1 false (.t 14)⟩,
      ⟨some 16, none, .len false (.t 15)⟩,
      ⟨some 17, none, .mov (.c (.int .i64 0))⟩])
    (.block 0 (.loop (.seq (.region [⟨some 18, none, .bin false .lss (.t 17) (.t 16)⟩])
    (.seq (.cond (.t 18) .skip
    (.exit 0))
    (.seq (.block 1 (.seq (.region [⟨some 19, none, .mov (.t 17)⟩,
      ⟨some 20, none, .idxA 3 (.t 15) (.t 17)⟩,
      ⟨some 21, none, .load 3 true (.t 20)⟩,
      ⟨some 9, none, .alloc 0 [.int .u64 0, .nil, .nil]⟩,
      ⟨some 8, none, .mov (.t 19)⟩,
      ⟨none, none, .store 3 (.t 9) (.t 21)⟩])
    (.seq (.region [⟨some 23, none, .fldA 6 1 false (.t 4)⟩,
      ⟨some 24, none, .load 1 false (.t 23)⟩,
      ⟨some 25, none, .load 3 true (.t 9)⟩,
      ⟨some 26, none, .load 3 true (.t 6)⟩,
      ⟨some 27, none, .call i_scalar_Compare [.t 24, .t 25, .t 26]⟩,
      ⟨some 22, none, .mov (.t 27)⟩,
      ⟨some 28, none, .ext 0 (.t 22)⟩,
      ⟨some 29, none, .ext 1 (.t 22)⟩,
      ⟨some 10, none, .mov (.t 28)⟩,
      ⟨some 11, none, .mov (.t 29)⟩])
    (.block 2 (.seq (.region [⟨some 31, none, .mov (.t 10)⟩,
      ⟨some 32, none, .bin false .eql (.t 31) (.c (.int .i64 0))⟩,
      ⟨some 30, none, .mov (.t 32)⟩])
    (.cond (.t 30) (.seq (.draw [3, 6, 7, 1000005, 2000006, 2000007] [⟨some 33, none, .mov (.t 1)⟩,
      ⟨some 34, none, .nilck (.t 33)⟩,
      ⟨some 35, none, .fldA 2 1 false (.t 34)⟩,
      ⟨some 36, none, .load 1 false (.t 35)⟩,
      ⟨some 37, none, .mov (.t 8)⟩,
      ⟨some 38, none, .load 3 true (.t 7)⟩,
      ⟨some 39, none, .idxA 3 (.t 36) (.t 37)⟩,
      ⟨none, none, .store 3 (.t 39) (.t 38)⟩])
    .ret)
    (.seq (.region [⟨some 41, none, .mov (.t 10)⟩,
      ⟨some 42, none, .bin false .gtr (.t 41) (.c (.int .i64 0))⟩,
      ⟨some 40, none, .mov (.t 42)⟩])
    (.cond (.t 40) (.seq (.draw [5, 9, 17, 20, 23, 1000007, 1000013, 1000015, 2000017, 2000020, 2000023] [⟨some 43, none, .mov (.t 1)⟩,
      ⟨some 44, none, .mov (.t 1)⟩,
      ⟨some 45, none, .mov (.t 1)⟩,
      ⟨some 46, none, .nilck (.t 45)⟩,
      ⟨some 47, none, .fldA 1 1 false (.t 46)⟩,
      ⟨some 48, none, .load 1 false (.t 47)⟩,
      ⟨some 49, none, .mov (.t 8)⟩,
      ⟨some 50, none, .load 3 true (.t 6)⟩,
      ⟨some 51, none, .bslice 3 [.t 50]⟩,
      ⟨some 52, none, .call i_slices_Insert_api_Val_api_Val [.t 48, .t 49, .t 51]⟩,
      ⟨some 53, none, .mov (.t 1)⟩,
      ⟨some 54, none, .nilck (.t 53)⟩,
      ⟨some 55, none, .fldA 2 1 false (.t 54)⟩,
      ⟨some 56, none, .load 1 false (.t 55)⟩,
      ⟨some 57, none, .mov (.t 8)⟩,
      ⟨some 58, none, .load 3 true (.t 7)⟩,
      ⟨some 59, none, .bslice 3 [.t 58]⟩,
      ⟨some 60, none, .call i_slices_Insert_api_Val_api_Val [.t 56, .t 57, .t 59]⟩,
      ⟨some 61, none, .nilck (.t 43)⟩,
      ⟨some 62, none, .fldA 1 1 false (.t 61)⟩,
      ⟨none, none, .store 1 (.t 62) (.t 52)⟩,
      ⟨some 63, none, .nilck (.t 44)⟩,
      ⟨some 64, none, .fldA 2 1 false (.t 63)⟩,
      ⟨none, none, .store 1 (.t 64) (.t 60)⟩])
    .ret)
    .skip))))))))
    (.region [⟨some 65, none, .bin false .add (.t 17) (.c (.int .i64 1))⟩,
      ⟨some 17, none, .mov (.t 65)⟩])))))))
    (.draw [5, 8, 15, 18, 21, 1000006, 1000012, 1000013, 2000015, 2000018, 2000021] [⟨some 66, none, .mov (.t 1)⟩,
      ⟨some 67, none, .mov (.t 1)⟩,
      ⟨some 68, none, .mov (.t 1)⟩,
      ⟨some 69, none, .nilck (.t 68)⟩,
      ⟨some 70, none, .fldA 1 1 false (.t 69)⟩,
      ⟨some 71, none, .load 1 false (.t 70)⟩,
      ⟨some 72, none, .load 3 true (.t 6)⟩,
      ⟨some 73, none, .bslice 3 [.t 72]⟩,
      ⟨some 74, none, .app 0 26 3 56 (.t 71) (.t 73)⟩,
      ⟨some 75, none, .mov (.t 1)⟩,
      ⟨some 76, none, .nilck (.t 75)⟩,
      ⟨some 77, none, .fldA 2 1 false (.t 76)⟩,
      ⟨some 78, none, .load 1 false (.t 77)⟩,
      ⟨some 79, none, .load 3 true (.t 7)⟩,
      ⟨some 80, none, .bslice 3 [.t 79]⟩,
      ⟨some 81, none, .app 0 26 3 56 (.t 78) (.t 80)⟩,
      ⟨some 82, none, .nilck (.t 66)⟩,
      ⟨some 83, none, .fldA 1 1 false (.t 82)⟩,
      ⟨none, none, .store 1 (.t 83) (.t 74)⟩,
      ⟨some 84, none, .nilck (.t 67)⟩,
      ⟨some 85, none, .fldA 2 1 false (.t 84)⟩,
      ⟨none, none, .store 1 (.t 85) (.t 81)⟩]))), []⟩
theorem T_interp_laid : trFn Tryz.prog [(0, [1, 1, 1]), (3, [0, 0, 0, 1, 0, 0]), (1000006, [3, 6, 7, 1000005, 2000006, 2000007]), (1000008, [5, 9, 17, 20, 23, 1000007, 1000013, 1000015, 2000017, 2000020, 2000023]), (1000010, [5, 8, 15, 18, 21, 1000006, 1000012, 1000013, 2000015, 2000018, 2000021])] Tryz.f240 = some A_interp_laid := by kernel_rfl
theorem L_interp_laid : 4 ≤ Tryz.f240.ntmps := by decide

/-! (*cartouche/interp.cursor).chunk -/
def A_interp_cursor_chunk : AFn := ⟨(.seq (.region [⟨some 2, none, .mov (.c (.nilp))⟩])
    (.seq (.draw [3, 8, 1000007, 2000008] [⟨some 7, none, .mov (.t 0)⟩,
      ⟨some 8, none, .nilck (.t 7)⟩,
      ⟨some 9, none, .fldA 0 1 false (.t 8)⟩,
      ⟨some 10, none, .load 1 false (.t 9)⟩,
      ⟨some 11, none, .mov (.t 0)⟩,
      ⟨some 12, none, .nilck (.t 11)⟩,
      ⟨some 13, none, .fldA 1 1 false (.t 12)⟩,
      ⟨some 14, none, .load 1 false (.t 13)⟩,
      ⟨some 15, none, .call i_wire_Span [.t 10, .t 14]⟩,
      ⟨some 6, none, .mov (.t 15)⟩,
      ⟨some 16, none, .ext 0 (.t 6)⟩,
      ⟨some 17, none, .ext 1 (.t 6)⟩,
      ⟨some 18, none, .ext 2 (.t 6)⟩,
      ⟨some 3, none, .mov (.t 16)⟩,
      ⟨some 4, none, .mov (.t 17)⟩,
      ⟨some 5, none, .mov (.t 18)⟩])
    (.seq (.region [⟨some 19, none, .mov (.t 5)⟩,
      ⟨some 20, none, .call i_interp_must [.t 19]⟩])
    (.seq (.region [⟨some 21, none, .mov (.t 0)⟩,
      ⟨some 22, none, .mov (.t 4)⟩,
      ⟨some 23, none, .nilck (.t 21)⟩,
      ⟨some 24, none, .fldA 1 1 false (.t 23)⟩,
      ⟨none, none, .store 1 (.t 24) (.t 22)⟩])
    (.seq (.region [⟨some 25, none, .mov (.t 0)⟩,
      ⟨some 26, none, .nilck (.t 25)⟩,
      ⟨some 27, none, .fldA 0 1 false (.t 26)⟩,
      ⟨some 28, none, .load 1 false (.t 27)⟩,
      ⟨some 29, none, .mov (.t 3)⟩,
      ⟨some 30, none, .mov (.t 4)⟩,
      ⟨some 31, none, .slc 1 (.t 28) (some (.t 29)) (some (.t 30)) none⟩,
      ⟨some 32, none, .build [.nil, .int .i64 0] [(0, 1, .t 31)]⟩,
      ⟨some 33, none, .box 0 (.t 32)⟩,
      ⟨some 2, none, .mov (.t 33)⟩])
    .ret))))), [.tmp 2]⟩
theorem T_interp_cursor_chunk : trFn Tryz.prog [(4, [0, 0, 0, 0, 0, 0, 0, 0, 1, 0]), (1000001, [3, 8, 1000007, 2000008])] Tryz.f241 = some A_interp_cursor_chunk := by kernel_rfl
theorem L_interp_cursor_chunk : 1 ≤ Tryz.f241.ntmps := by decide

/-! cartouche/wire.GetFix64 -/
def A_wire_GetFix64 : AFn := ⟨(.seq (.region [⟨some 4, none, .mov (.c (.int .u64 0))⟩,
      ⟨some 5, none, .mov (.c (.int .i64 0))⟩,
      ⟨some 6, none, .mov (.c (.int .i64 0))⟩])
    (.seq (.region [⟨some 7, none, .mov (.t 0)⟩,
      ⟨some 8, none, .mov (.t 1)⟩,
      ⟨some 9, none, .call i_wire_read [.t 7, .t 8, .c (.int .i64 8)]⟩,
      ⟨some 10, none, .ext 0 (.t 9)⟩,
      ⟨some 11, none, .ext 1 (.t 9)⟩,
      ⟨some 12, none, .ext 2 (.t 9)⟩,
      ⟨some 4, none, .mov (.t 10)⟩,
      ⟨some 5, none, .mov (.t 11)⟩,
      ⟨some 6, none, .mov (.t 12)⟩])
    .ret)), [.tmp 4, .tmp 5, .tmp 6]⟩
theorem T_wire_GetFix64 : trFn Tryz.prog [] Tryz.f242 = some A_wire_GetFix64 := by kernel_rfl
theorem L_wire_GetFix64 : 2 ≤ Tryz.f242.ntmps := by decide

/-! strings.Split -/
def A_strings_Split : AFn := ⟨(.seq (.region [⟨some 4, none, .mov (.c (.nil))⟩])
    (.seq (.region [⟨some 5, none, .mov (.t 0)⟩,
      ⟨some 6, none, .mov (.t 1)⟩,
      ⟨some 7, none, .call i_strings_genSplit [.t 5, .t 6, .c (.int .i64 0), .c (.int .i64 (-1))]⟩,
      ⟨some 4, none, .mov (.t 7)⟩])
    .ret)), [.tmp 4]⟩
theorem T_strings_Split : trFn Tryz.prog [] Tryz.f243 = some A_strings_Split := by kernel_rfl
theorem L_strings_Split : 2 ≤ Tryz.f243.ntmps := by decide

/-! cartouche/lex.IsName -/
def A_lex_IsName : AFn := ⟨(.seq (.region [⟨some 2, none, .mov (.c (.bool false))⟩])
    (.seq (.region [⟨some 3, none, .mov (.t 0)⟩,
      ⟨some 4, none, .bin false .neq (.t 3) (.c (.str ⟨#[]⟩))⟩,
      ⟨some 5, none, .mov (.t 4)⟩,
      ⟨some 6, some (5, true), .mov (.t 0)⟩,
      ⟨some 7, some (5, true), .idxS (.t 6) (.c (.int .i64 0))⟩,
      ⟨some 8, some (5, true), .call i_lex_letter [.t 7]⟩,
      ⟨some 9, none, .pickb (.t 5) (.t 8) (.c (.bool false))⟩,
      ⟨some 10, none, .mov (.t 9)⟩,
      ⟨some 11, some (10, true), .mov (.t 0)⟩,
      ⟨some 12, some (10, true), .call i_lex_named [.t 11, .c (.int .i64 0)]⟩,
      ⟨some 13, some (10, true), .mov (.t 0)⟩,
      ⟨some 14, some (10, true), .len true (.t 13)⟩,
      ⟨some 15, some (10, true), .bin false .eql (.t 12) (.t 14)⟩,
      ⟨some 16, none, .pickb (.t 10) (.t 15) (.c (.bool false))⟩,
      ⟨some 2, none, .mov (.t 16)⟩])
    .ret)), [.tmp 2]⟩
theorem T_lex_IsName : trFn Tryz.prog [] Tryz.f244 = some A_lex_IsName := by kernel_rfl
theorem L_lex_IsName : 1 ≤ Tryz.f244.ntmps := by decide

/-! (cartouche/table.named).add -/
def A_table_named_add : AFn := ⟨(.seq (.region [⟨some 4, none, .mov (.c (.bool false))⟩])
    (.seq (.seq (.region [⟨some 8, none, .mov (.t 0)⟩,
      ⟨some 9, none, .mov (.t 1)⟩,
      ⟨some 10, none, .look .str (.agg []) true (.t 8) (.t 9)⟩,
      ⟨some 7, none, .mov (.t 10)⟩,
      ⟨some 11, none, .ext 0 (.t 7)⟩,
      ⟨some 12, none, .ext 1 (.t 7)⟩,
      ⟨some 5, none, .alloc 0 []⟩,
      ⟨none, none, .store 0 (.t 5) (.t 11)⟩,
      ⟨some 6, none, .mov (.t 12)⟩])
    (.seq (.region [⟨some 13, none, .mov (.t 6)⟩])
    (.cond (.t 13) (.seq (.region [⟨some 4, none, .mov (.c (.bool false))⟩])
    .ret)
    .skip)))
    (.seq (.region [⟨some 14, none, .mov (.t 0)⟩,
      ⟨some 15, none, .mov (.t 1)⟩,
      ⟨some 16, none, .build [] []⟩,
      ⟨none, none, .mapset .str (.t 14) (.t 15) (.t 16)⟩])
    (.seq (.region [⟨some 4, none, .mov (.c (.bool true))⟩])
    .ret)))), [.tmp 4]⟩
theorem T_table_named_add : trFn Tryz.prog [(1, [0, 0, 0, 0, 0, 0, 1, 0, 0])] Tryz.f246 = some A_table_named_add := by kernel_rfl
theorem L_table_named_add : 2 ≤ Tryz.f246.ntmps := by decide

/-! cartouche/table.reserved -/
def A_table_reserved : AFn := ⟨(.seq (.region [⟨some 2, none, .box 0 (.t 0)⟩,
      ⟨some 4, none, .mov (.c (.bool false))⟩])
    (.seq (.seq (.region [⟨some 7, none, .fldA 5 1 false (.t 2)⟩,
      ⟨some 8, none, .load 1 false (.t 7)⟩,
      ⟨some 9, none, .len false (.t 8)⟩,
      ⟨some 10, none, .mov (.c (.int .i64 0))⟩])
    (.block 0 (.loop (.seq (.region [⟨some 11, none, .bin false .lss (.t 10) (.t 9)⟩])
    (.seq (.cond (.t 11) .skip
    (.exit 0))
    (.seq (.block 1 (.seq (.region [⟨some 12, none, .idxA 2 (.t 8) (.t 10)⟩,
      ⟨some 13, none, .load 2 true (.t 12)⟩,
      ⟨some 6, none, .alloc 0 [.int .i64 0, .int .i64 0]⟩,
      ⟨none, none, .store 2 (.t 6) (.t 13)⟩])
    (.seq (.region [⟨some 14, none, .mov (.t 1)⟩,
      ⟨some 15, none, .fldA 0 1 false (.t 6)⟩,
      ⟨some 16, none, .load 1 false (.t 15)⟩,
      ⟨some 17, none, .bin false .geq (.t 14) (.t 16)⟩,
      ⟨some 18, none, .mov (.t 17)⟩,
      ⟨some 19, some (18, true), .mov (.t 1)⟩,
      ⟨some 20, some (18, true), .fldA 1 1 false (.t 6)⟩,
      ⟨some 21, some (18, true), .load 1 false (.t 20)⟩,
      ⟨some 22, some (18, true), .bin false .leq (.t 19) (.t 21)⟩,
      ⟨some 23, none, .pickb (.t 18) (.t 22) (.c (.bool false))⟩])
    (.cond (.t 23) (.seq (.region [⟨some 4, none, .mov (.c (.bool true))⟩])
    .ret)
    .skip))))
    (.region [⟨some 24, none, .bin false .add (.t 10) (.c (.int .i64 1))⟩,
      ⟨some 10, none, .mov (.t 24)⟩])))))))
    (.seq (.region [⟨some 4, none, .mov (.c (.bool false))⟩])
    .ret))), [.tmp 4]⟩
theorem T_table_reserved : trFn Tryz.prog [(0, [1, 0]), (3, [0, 0, 1, 0])] Tryz.f247 = some A_table_reserved := by kernel_rfl
theorem L_table_reserved : 2 ≤ Tryz.f247.ntmps := by decide

/-! cartouche/table.goodField -/
def A_table_goodField : AFn := ⟨(.seq (.region [⟨some 3, none, .box 0 (.t 0)⟩,
      ⟨some 4, none, .box 0 (.t 1)⟩,
      ⟨some 5, none, .box 0 (.t 2)⟩,
      ⟨some 6, none, .mov (.c (.bool false))⟩])
    (.seq (.seq (.region [⟨some 7, none, .fldA 2 1 false (.t 5)⟩,
      ⟨some 8, none, .load 1 false (.t 7)⟩])
    (.block 0 (.seq (.seq (.region [⟨some 23, none, .bin false .eql (.t 8) (.c (.int .i64 16))⟩,
      ⟨some 22, none, .mov (.t 23)⟩])
    (.cond (.t 22) .skip
    (.region [⟨some 24, none, .bin false .eql (.t 8) (.c (.int .i64 17))⟩,
      ⟨some 22, none, .mov (.t 24)⟩])))
    (.cond (.t 22) (.seq (.region [⟨some 25, none, .load 1 true (.t 3)⟩,
      ⟨some 26, none, .fldA 3 1 false (.t 5)⟩,
      ⟨some 27, none, .load 1 false (.t 26)⟩,
      ⟨some 28, none, .fldA 2 1 false (.t 5)⟩,
      ⟨some 29, none, .load 1 false (.t 28)⟩,
      ⟨some 30, none, .bin false .eql (.t 29) (.c (.int .i64 16))⟩,
      ⟨some 31, none, .call i_table_sort [.t 25, .t 27, .t 30]⟩,
      ⟨some 32, none, .un .not (.t 31)⟩])
    (.cond (.t 32) (.seq (.region [⟨some 6, none, .mov (.c (.bool false))⟩])
    .ret)
    .skip))
    (.seq (.region [⟨some 9, none, .fldA 3 1 false (.t 5)⟩,
      ⟨some 10, none, .load 1 false (.t 9)⟩,
      ⟨some 11, none, .bin false .neq (.t 10) (.c (.int .i64 0))⟩,
      ⟨some 12, none, .mov (.t 11)⟩,
      ⟨some 13, some (12, false), .fldA 2 1 false (.t 5)⟩,
      ⟨some 14, some (12, false), .load 1 false (.t 13)⟩,
      ⟨some 15, some (12, false), .bin false .lss (.t 14) (.c (.int .i64 1))⟩,
      ⟨some 16, none, .pickb (.t 12) (.c (.bool true)) (.t 15)⟩,
      ⟨some 17, none, .mov (.t 16)⟩,
      ⟨some 18, some (17, false), .fldA 2 1 false (.t 5)⟩,
      ⟨some 19, some (17, false), .load 1 false (.t 18)⟩,
      ⟨some 20, some (17, false), .bin false .gtr (.t 19) (.c (.int .i64 17))⟩,
      ⟨some 21, none, .pickb (.t 17) (.c (.bool true)) (.t 20)⟩])
    (.cond (.t 21) (.seq (.region [⟨some 6, none, .mov (.c (.bool false))⟩])
    .ret)
    .skip))))))
    (.seq (.seq (.region [⟨some 33, none, .fldA 4 1 false (.t 5)⟩,
      ⟨some 34, none, .load 1 false (.t 33)⟩,
      ⟨some 35, none, .bin false .lss (.t 34) (.c (.int .i64 0))⟩,
      ⟨some 36, none, .mov (.t 35)⟩,
      ⟨some 37, some (36, false), .fldA 4 1 false (.t 5)⟩,
      ⟨some 38, some (36, false), .load 1 false (.t 37)⟩,
      ⟨some 39, some (36, false), .bin false .gtr (.t 38) (.c (.int .i64 5))⟩,
      ⟨some 40, none, .pickb (.t 36) (.c (.bool true)) (.t 39)⟩,
      ⟨some 41, none, .mov (.t 40)⟩,
      ⟨some 42, some (41, false), .fldA 4 1 false (.t 5)⟩,
      ⟨some 43, some (41, false), .load 1 false (.t 42)⟩,
      ⟨some 44, some (41, false), .bin false .eql (.t 43) (.c (.int .i64 0))⟩,
      ⟨some 45, some (41, false), .mov (.t 44)⟩,
      ⟨some 46, some (45, true), .fldA 2 1 false (.t 5)⟩,
      ⟨some 47, some (45, true), .load 1 false (.t 46)⟩,
      ⟨some 48, some (45, true), .bin false .eql (.t 47) (.c (.int .i64 17))⟩,
      ⟨some 49, some (41, false), .pickb (.t 45) (.t 48) (.c (.bool false))⟩,
      ⟨some 50, none, .pickb (.t 41) (.c (.bool true)) (.t 49)⟩,
      ⟨some 51, none, .mov (.t 50)⟩,
      ⟨some 52, some (51, false), .fldA 4 1 false (.t 5)⟩,
      ⟨some 53, some (51, false), .load 1 false (.t 52)⟩,
      ⟨some 54, some (51, false), .bin false .eql (.t 53) (.c (.int .i64 3))⟩,
      ⟨some 55, some (51, false), .mov (.t 54)⟩,
      ⟨some 56, some (55, true), .fldA 2 1 false (.t 5)⟩,
      ⟨some 57, some (55, true), .load 1 false (.t 56)⟩,
      ⟨some 58, some (55, true), .call i_scalar_Numeric [.t 57]⟩,
      ⟨some 59, some (55, true), .un .not (.t 58)⟩,
      ⟨some 60, some (51, false), .pickb (.t 55) (.t 59) (.c (.bool false))⟩,
      ⟨some 61, none, .pickb (.t 51) (.c (.bool true)) (.t 60)⟩])
    (.cond (.t 61) (.seq (.region [⟨some 6, none, .mov (.c (.bool false))⟩])
    .ret)
    .skip))
    (.seq (.seq (.region [⟨some 62, none, .fldA 4 1 false (.t 5)⟩,
      ⟨some 63, none, .load 1 false (.t 62)⟩,
      ⟨some 64, none, .bin false .eql (.t 63) (.c (.int .i64 4))⟩])
    (.cond (.t 64) (.seq (.region [⟨some 65, none, .fldA 5 1 false (.t 5)⟩,
      ⟨some 66, none, .load 1 false (.t 65)⟩,
      ⟨some 67, none, .bin false .lss (.t 66) (.c (.int .i64 0))⟩,
      ⟨some 68, none, .mov (.t 67)⟩,
      ⟨some 69, some (68, false), .fldA 5 1 false (.t 5)⟩,
      ⟨some 70, some (68, false), .load 1 false (.t 69)⟩,
      ⟨some 71, some (68, false), .fldA 3 1 false (.t 4)⟩,
      ⟨some 72, some (68, false), .load 1 false (.t 71)⟩,
      ⟨some 73, some (68, false), .len false (.t 72)⟩,
      ⟨some 74, some (68, false), .bin false .geq (.t 70) (.t 73)⟩,
      ⟨some 75, none, .pickb (.t 68) (.c (.bool true)) (.t 74)⟩])
    (.cond (.t 75) (.seq (.region [⟨some 6, none, .mov (.c (.bool false))⟩])
    .ret)
    .skip))
    (.seq (.region [⟨some 76, none, .fldA 5 1 false (.t 5)⟩,
      ⟨some 77, none, .load 1 false (.t 76)⟩,
      ⟨some 78, none, .bin false .neq (.t 77) (.c (.int .i64 0))⟩])
    (.cond (.t 78) (.seq (.region [⟨some 6, none, .mov (.c (.bool false))⟩])
    .ret)
    .skip))))
    (.seq (.seq (.region [⟨some 79, none, .fldA 4 1 false (.t 5)⟩,
      ⟨some 80, none, .load 1 false (.t 79)⟩,
      ⟨some 81, none, .bin false .eql (.t 80) (.c (.int .i64 5))⟩])
    (.cond (.t 81) (.seq (.region [⟨some 82, none, .fldA 6 1 false (.t 5)⟩,
      ⟨some 83, none, .load 1 false (.t 82)⟩,
      ⟨some 84, none, .call i_scalar_IsKey [.t 83]⟩,
      ⟨some 6, none, .mov (.t 84)⟩])
    .ret)
    .skip))
    (.seq (.region [⟨some 85, none, .fldA 6 1 false (.t 5)⟩,
      ⟨some 86, none, .load 1 false (.t 85)⟩,
      ⟨some 87, none, .bin false .eql (.t 86) (.c (.int .i64 0))⟩,
      ⟨some 6, none, .mov (.t 87)⟩])
    .ret)))))), [.tmp 6]⟩
theorem T_table_goodField : trFn Tryz.prog [(0, [1, 1, 1, 0])] Tryz.f248 = some A_table_goodField := by kernel_rfl
theorem L_table_goodField : 3 ≤ Tryz.f248.ntmps := by decide

-- NOT 249 slices.overlaps[cartouche/api.Field]: IndexError('tuple index out of range')
/-! slices.rotateRight[cartouche/api.Field] -/
def A_slices_rotateRight_api_Field : AFn := ⟨(.region [⟨some 4, none, .mov (.t 0)⟩,
      ⟨some 5, none, .mov (.t 0)⟩,
      ⟨some 6, none, .len false (.t 5)⟩,
      ⟨some 7, none, .mov (.t 1)⟩,
      ⟨some 8, none, .bin false .sub (.t 6) (.t 7)⟩,
      ⟨some 9, none, .call i_slices_rotateLeft_api_Field [.t 4, .t 8]⟩]), []⟩
theorem T_slices_rotateRight_api_Field : trFn Tryz.prog [] Tryz.f250 = some A_slices_rotateRight_api_Field := by kernel_rfl
theorem L_slices_rotateRight_api_Field : 2 ≤ Tryz.f250.ntmps := by decide

/-! cartouche/wire.isKind -/
def A_wire_isKind : AFn := ⟨(.seq (.region [⟨some 2, none, .mov (.c (.bool false))⟩])
    (.seq (.seq (.region [⟨some 3, none, .mov (.t 0)⟩])
    (.block 0 (.seq (.seq (.region [⟨some 5, none, .bin false .eql (.t 3) (.c (.int .i64 0))⟩,
      ⟨some 4, none, .mov (.t 5)⟩])
    (.cond (.t 4) .skip
    (.seq (.region [⟨some 6, none, .bin false .eql (.t 3) (.c (.int .i64 1))⟩,
      ⟨some 4, none, .mov (.t 6)⟩])
    (.cond (.t 4) .skip
    (.seq (.region [⟨some 7, none, .bin false .eql (.t 3) (.c (.int .i64 2))⟩,
      ⟨some 4, none, .mov (.t 7)⟩])
    (.cond (.t 4) .skip
    (.region [⟨some 8, none, .bin false .eql (.t 3) (.c (.int .i64 5))⟩,
      ⟨some 4, none, .mov (.t 8)⟩])))))))
    (.cond (.t 4) (.seq (.region [⟨some 2, none, .mov (.c (.bool true))⟩])
    .ret)
    .skip))))
    (.seq (.region [⟨some 2, none, .mov (.c (.bool false))⟩])
    .ret))), [.tmp 2]⟩
theorem T_wire_isKind : trFn Tryz.prog [] Tryz.f251 = some A_wire_isKind := by kernel_rfl
theorem L_wire_isKind : 1 ≤ Tryz.f251.ntmps := by decide

/-! cartouche/wire.Span -/
def A_wire_Span : AFn := ⟨(.seq (.region [⟨some 4, none, .mov (.c (.int .i64 0))⟩,
      ⟨some 5, none, .mov (.c (.int .i64 0))⟩,
      ⟨some 6, none, .mov (.c (.int .i64 0))⟩])
    (.seq (.region [⟨some 9, none, .mov (.t 0)⟩,
      ⟨some 10, none, .mov (.t 1)⟩,
      ⟨some 11, none, .call i_wire_GetVarint [.t 9, .t 10]⟩,
      ⟨some 8, none, .mov (.t 11)⟩,
      ⟨some 12, none, .ext 0 (.t 8)⟩,
      ⟨some 13, none, .ext 1 (.t 8)⟩,
      ⟨some 14, none, .ext 2 (.t 8)⟩,
      ⟨some 7, none, .mov (.t 12)⟩,
      ⟨some 4, none, .mov (.t 13)⟩,
      ⟨some 6, none, .mov (.t 14)⟩])
    (.seq (.block 0 (.seq (.region [⟨some 16, none, .mov (.t 6)⟩,
      ⟨some 17, none, .bin false .neq (.t 16) (.c (.int .i64 0))⟩,
      ⟨some 15, none, .mov (.t 17)⟩])
    (.cond (.t 15) (.seq (.region [⟨some 18, none, .mov (.t 6)⟩,
      ⟨some 4, none, .mov (.c (.int .i64 0))⟩,
      ⟨some 5, none, .mov (.c (.int .i64 0))⟩,
      ⟨some 6, none, .mov (.t 18)⟩])
    .ret)
    (.seq (.region [⟨some 20, none, .mov (.t 7)⟩,
      ⟨some 21, none, .mov (.t 0)⟩,
      ⟨some 22, none, .len false (.t 21)⟩,
      ⟨some 23, none, .mov (.t 4)⟩,
      ⟨some 24, none, .bin false .sub (.t 22) (.t 23)⟩,
      ⟨some 25, none, .conv .u64 (.t 24)⟩,
      ⟨some 26, none, .bin false .gtr (.t 20) (.t 25)⟩,
      ⟨some 19, none, .mov (.t 26)⟩])
    (.cond (.t 19) (.seq (.region [⟨some 4, none, .mov (.c (.int .i64 0))⟩,
      ⟨some 5, none, .mov (.c (.int .i64 0))⟩,
      ⟨some 6, none, .mov (.c (.int .i64 3))⟩])
    .ret)
    .skip)))))
    (.seq (.region [⟨some 27, none, .mov (.t 4)⟩,
      ⟨some 28, none, .mov (.t 4)⟩,
      ⟨some 29, none, .mov (.t 7)⟩,
      ⟨some 30, none, .conv .i64 (.t 29)⟩,
      ⟨some 31, none, .bin false .add (.t 28) (.t 30)⟩,
      ⟨some 4, none, .mov (.t 27)⟩,
      ⟨some 5, none, .mov (.t 31)⟩,
      ⟨some 6, none, .mov (.c (.int .i64 0))⟩])
    .ret)))), [.tmp 4, .tmp 5, .tmp 6]⟩
theorem T_wire_Span : trFn Tryz.prog [] Tryz.f252 = some A_wire_Span := by kernel_rfl
theorem L_wire_Span : 2 ≤ Tryz.f252.ntmps := by decide

/-! cartouche/scalar.Fits -/
def A_scalar_Fits : AFn := ⟨(.seq (.region [⟨some 3, none, .box 0 (.t 1)⟩,
      ⟨some 4, none, .mov (.c (.bool false))⟩])
    (.seq (.block 0 (.seq (.region [⟨some 6, none, .mov (.t 0)⟩,
      ⟨some 7, none, .call i_scalar_known [.t 6]⟩,
      ⟨some 8, none, .un .not (.t 7)⟩,
      ⟨some 9, none, .mov (.t 8)⟩,
      ⟨some 10, some (9, false), .fldA 2 1 false (.t 3)⟩,
      ⟨some 11, some (9, false), .load 1 false (.t 10)⟩,
      ⟨some 12, some (9, false), .len false (.t 11)⟩,
      ⟨some 13, some (9, false), .bin false .gtr (.t 12) (.c (.int .i64 0))⟩,
      ⟨some 14, none, .pickb (.t 9) (.c (.bool true)) (.t 13)⟩,
      ⟨some 5, none, .mov (.t 14)⟩])
    (.cond (.t 5) (.seq (.region [⟨some 4, none, .mov (.c (.bool false))⟩])
    .ret)
    (.seq (.region [⟨some 16, none, .mov (.t 0)⟩,
      ⟨some 17, none, .call i_scalar_Numeric [.t 16]⟩,
      ⟨some 15, none, .mov (.t 17)⟩])
    (.cond (.t 15) (.seq (.region [⟨some 18, none, .fldA 1 1 false (.t 3)⟩,
      ⟨some 19, none, .load 1 false (.t 18)⟩,
      ⟨some 20, none, .len false (.t 19)⟩,
      ⟨some 21, none, .bin false .eql (.t 20) (.c (.int .i64 0))⟩,
      ⟨some 22, none, .mov (.t 21)⟩,
      ⟨some 23, some (22, true), .mov (.t 0)⟩,
      ⟨some 24, some (22, true), .fldA 0 1 false (.t 3)⟩,
      ⟨some 25, some (22, true), .load 1 false (.t 24)⟩,
      ⟨some 26, some (22, true), .call i_scalar_holds [.t 23, .t 25]⟩,
      ⟨some 27, none, .pickb (.t 22) (.t 26) (.c (.bool false))⟩,
      ⟨some 4, none, .mov (.t 27)⟩])
    .ret)
    .skip)))))
    (.seq (.region [⟨some 28, none, .fldA 0 1 false (.t 3)⟩,
      ⟨some 29, none, .load 1 false (.t 28)⟩,
      ⟨some 30, none, .bin false .eql (.t 29) (.c (.int .u64 0))⟩,
      ⟨some 4, none, .mov (.t 30)⟩])
    .ret))), [.tmp 4]⟩
theorem T_scalar_Fits : trFn Tryz.prog [(0, [1, 0])] Tryz.f256 = some A_scalar_Fits := by kernel_rfl
theorem L_scalar_Fits : 2 ≤ Tryz.f256.ntmps := by decide

/-! cartouche/table.SymbolAt -/
def A_table_SymbolAt : AFn := ⟨(.seq (.region [⟨some 2, none, .box 0 (.t 0)⟩,
      ⟨some 4, none, .mov (.c (.str ⟨#[]⟩))⟩,
      ⟨some 5, none, .mov (.c (.bool false))⟩])
    (.seq (.seq (.region [⟨some 8, none, .fldA 4 1 false (.t 2)⟩,
      ⟨some 9, none, .load 1 false (.t 8)⟩,
      ⟨some 10, none, .len false (.t 9)⟩,
      ⟨some 11, none, .mov (.c (.int .i64 0))⟩])
    (.block 0 (.loop (.seq (.region [⟨some 12, none, .bin false .lss (.t 11) (.t 10)⟩])
    (.seq (.cond (.t 12) .skip
    (.exit 0))
    (.seq (.block 1 (.seq (.region [⟨some 13, none, .idxA 2 (.t 9) (.t 11)⟩,
      ⟨some 14, none, .load 2 true (.t 13)⟩,
      ⟨some 7, none, .alloc 0 [.str ⟨#[]⟩, .int .i64 0]⟩,
      ⟨none, none, .store 2 (.t 7) (.t 14)⟩])
    (.seq (.region [⟨some 15, none, .fldA 1 1 false (.t 7)⟩,
      ⟨some 16, none, .load 1 false (.t 15)⟩,
      ⟨some 17, none, .mov (.t 1)⟩,
      ⟨some 18, none, .bin false .eql (.t 16) (.t 17)⟩])
    (.cond (.t 18) (.seq (.region [⟨some 19, none, .fldA 0 1 false (.t 7)⟩,
      ⟨some 20, none, .load 1 false (.t 19)⟩,
      ⟨some 4, none, .mov (.t 20)⟩,
      ⟨some 5, none, .mov (.c (.bool true))⟩])
    .ret)
    .skip))))
    (.region [⟨some 21, none, .bin false .add (.t 11) (.c (.int .i64 1))⟩,
      ⟨some 11, none, .mov (.t 21)⟩])))))))
    (.seq (.region [⟨some 4, none, .mov (.c (.str ⟨#[]⟩))⟩,
      ⟨some 5, none, .mov (.c (.bool false))⟩])
    .ret))), [.tmp 4, .tmp 5]⟩
theorem T_table_SymbolAt : trFn Tryz.prog [(0, [1, 0, 0]), (3, [0, 0, 1, 0])] Tryz.f257 = some A_table_SymbolAt := by kernel_rfl
theorem L_table_SymbolAt : 2 ≤ Tryz.f257.ntmps := by decide

/-! cartouche/quote.Valid -/
def A_quote_Valid : AFn := ⟨(.seq (.region [⟨some 2, none, .mov (.c (.bool false))⟩])
    (.seq (.region [⟨some 3, none, .mov (.t 0)⟩,
      ⟨some 4, none, .call i_utf8_Valid [.t 3]⟩,
      ⟨some 2, none, .mov (.t 4)⟩])
    .ret)), [.tmp 2]⟩
theorem T_quote_Valid : trFn Tryz.prog [] Tryz.f258 = some A_quote_Valid := by kernel_rfl
theorem L_quote_Valid : 1 ≤ Tryz.f258.ntmps := by decide

/-! cartouche/scalar.IsKey -/
def A_scalar_IsKey : AFn := ⟨(.seq (.region [⟨some 2, none, .mov (.c (.bool false))⟩])
    (.seq (.region [⟨some 3, none, .mov (.t 0)⟩,
      ⟨some 4, none, .bin false .geq (.t 3) (.c (.int .i64 1))⟩,
      ⟨some 5, none, .mov (.t 4)⟩,
      ⟨some 6, some (5, true), .mov (.t 0)⟩,
      ⟨some 7, some (5, true), .bin false .leq (.t 6) (.c (.int .i64 11))⟩,
      ⟨some 8, none, .pickb (.t 5) (.t 7) (.c (.bool false))⟩,
      ⟨some 9, none, .mov (.t 8)⟩,
      ⟨some 10, some (9, false), .mov (.t 0)⟩,
      ⟨some 11, some (9, false), .bin false .eql (.t 10) (.c (.int .i64 14))⟩,
      ⟨some 12, none, .pickb (.t 9) (.c (.bool true)) (.t 11)⟩,
      ⟨some 2, none, .mov (.t 12)⟩])
    .ret)), [.tmp 2]⟩
theorem T_scalar_IsKey : trFn Tryz.prog [] Tryz.f259 = some A_scalar_IsKey := by kernel_rfl
theorem L_scalar_IsKey : 1 ≤ Tryz.f259.ntmps := by decide

/-! bytes.Compare -/
def A_bytes_Compare : AFn := ⟨(.seq (.region [⟨some 4, none, .mov (.c (.int .i64 0))⟩])
    (.seq (.region [⟨some 5, none, .mov (.t 0)⟩,
      ⟨some 6, none, .mov (.t 1)⟩,
      ⟨some 7, none, .bad⟩,
      ⟨some 4, none, .mov (.t 7)⟩])
    .ret)), [.tmp 4]⟩
theorem T_bytes_Compare : trFn Tryz.prog [] Tryz.f260 = some A_bytes_Compare := by kernel_rfl
theorem L_bytes_Compare : 2 ≤ Tryz.f260.ntmps := by decide

/-! cartouche/scalar.signed -/
def A_scalar_signed : AFn := ⟨(.seq (.region [⟨some 2, none, .mov (.c (.bool false))⟩])
    (.seq (.seq (.region [⟨some 3, none, .mov (.t 0)⟩])
    (.block 0 (.seq (.seq (.region [⟨some 5, none, .bin false .eql (.t 3) (.c (.int .i64 2))⟩,
      ⟨some 4, none, .mov (.t 5)⟩])
    (.cond (.t 4) .skip
    (.seq (.region [⟨some 6, none, .bin false .eql (.t 3) (.c (.int .i64 3))⟩,
      ⟨some 4, none, .mov (.t 6)⟩])
    (.cond (.t 4) .skip
    (.seq (.region [⟨some 7, none, .bin false .eql (.t 3) (.c (.int .i64 6))⟩,
      ⟨some 4, none, .mov (.t 7)⟩])
    (.cond (.t 4) .skip
    (.seq (.region [⟨some 8, none, .bin false .eql (.t 3) (.c (.int .i64 7))⟩,
      ⟨some 4, none, .mov (.t 8)⟩])
    (.cond (.t 4) .skip
    (.seq (.region [⟨some 9, none, .bin false .eql (.t 3) (.c (.int .i64 10))⟩,
      ⟨some 4, none, .mov (.t 9)⟩])
    (.cond (.t 4) .skip
    (.region [⟨some 10, none, .bin false .eql (.t 3) (.c (.int .i64 11))⟩,
      ⟨some 4, none, .mov (.t 10)⟩])))))))))))
    (.cond (.t 4) (.seq (.region [⟨some 2, none, .mov (.c (.bool true))⟩])
    .ret)
    .skip))))
    (.seq (.region [⟨some 2, none, .mov (.c (.bool false))⟩])
    .ret))), [.tmp 2]⟩
theorem T_scalar_signed : trFn Tryz.prog [] Tryz.f261 = some A_scalar_signed := by kernel_rfl
theorem L_scalar_signed : 1 ≤ Tryz.f261.ntmps := by decide

/-! cmp.Compare[int64] -/
def A_cmp_Compare_int64 : AFn := ⟨(.seq (.region [⟨some 4, none, .mov (.c (.int .i64 0))⟩])
    (.seq (.region [⟨some 7, none, .mov (.t 0)⟩,
      ⟨some 8, none, .call i_cmp_isNaN_int64 [.t 7]⟩,
      ⟨some 5, none, .mov (.t 8)⟩])
    (.seq (.region [⟨some 9, none, .mov (.t 1)⟩,
      ⟨some 10, none, .call i_cmp_isNaN_int64 [.t 9]⟩,
      ⟨some 6, none, .mov (.t 10)⟩])
    (.seq (.seq (.region [⟨some 11, none, .mov (.t 5)⟩])
    (.cond (.t 11) (.seq (.seq (.region [⟨some 12, none, .mov (.t 6)⟩])
    (.cond (.t 12) (.seq (.region [⟨some 4, none, .mov (.c (.int .i64 0))⟩])
    .ret)
    .skip))
    (.seq (.region [⟨some 4, none, .mov (.c (.int .i64 (-1)))⟩])
    .ret))
    .skip))
    (.seq (.seq (.region [⟨some 13, none, .mov (.t 6)⟩])
    (.cond (.t 13) (.seq (.region [⟨some 4, none, .mov (.c (.int .i64 1))⟩])
    .ret)
    .skip))
    (.seq (.seq (.region [⟨some 14, none, .mov (.t 0)⟩,
      ⟨some 15, none, .mov (.t 1)⟩,
      ⟨some 16, none, .bin false .lss (.t 14) (.t 15)⟩])
    (.cond (.t 16) (.seq (.region [⟨some 4, none, .mov (.c (.int .i64 (-1)))⟩])
    .ret)
    .skip))
    (.seq (.seq (.region [⟨some 17, none, .mov (.t 0)⟩,
      ⟨some 18, none, .mov (.t 1)⟩,
      ⟨some 19, none, .bin false .gtr (.t 17) (.t 18)⟩])
    (.cond (.t 19) (.seq (.region [⟨some 4, none, .mov (.c (.int .i64 1))⟩])
    .ret)
    .skip))
    (.seq (.region [⟨some 4, none, .mov (.c (.int .i64 0))⟩])
    .ret)))))))), [.tmp 4]⟩
theorem T_cmp_Compare_int64 : trFn Tryz.prog [] Tryz.f262 = some A_cmp_Compare_int64 := by kernel_rfl
theorem L_cmp_Compare_int64 : 2 ≤ Tryz.f262.ntmps := by decide

/-! cmp.Compare[uint64] -/
def A_cmp_Compare_uint64 : AFn := ⟨(.seq (.region [⟨some 4, none, .mov (.c (.int .i64 0))⟩])
    (.seq (.region [⟨some 7, none, .mov (.t 0)⟩,
      ⟨some 8, none, .call i_cmp_isNaN_uint64 [.t 7]⟩,
      ⟨some 5, none, .mov (.t 8)⟩])
    (.seq (.region [⟨some 9, none, .mov (.t 1)⟩,
      ⟨some 10, none, .call i_cmp_isNaN_uint64 [.t 9]⟩,
      ⟨some 6, none, .mov (.t 10)⟩])
    (.seq (.seq (.region [⟨some 11, none, .mov (.t 5)⟩])
    (.cond (.t 11) (.seq (.seq (.region [⟨some 12, none, .mov (.t 6)⟩])
    (.cond (.t 12) (.seq (.region [⟨some 4, none, .mov (.c (.int .i64 0))⟩])
    .ret)
    .skip))
    (.seq (.region [⟨some 4, none, .mov (.c (.int .i64 (-1)))⟩])
    .ret))
    .skip))
    (.seq (.seq (.region [⟨some 13, none, .mov (.t 6)⟩])
    (.cond (.t 13) (.seq (.region [⟨some 4, none, .mov (.c (.int .i64 1))⟩])
    .ret)
    .skip))
    (.seq (.seq (.region [⟨some 14, none, .mov (.t 0)⟩,
      ⟨some 15, none, .mov (.t 1)⟩,
      ⟨some 16, none, .bin false .lss (.t 14) (.t 15)⟩])
    (.cond (.t 16) (.seq (.region [⟨some 4, none, .mov (.c (.int .i64 (-1)))⟩])
    .ret)
    .skip))
    (.seq (.seq (.region [⟨some 17, none, .mov (.t 0)⟩,
      ⟨some 18, none, .mov (.t 1)⟩,
      ⟨some 19, none, .bin false .gtr (.t 17) (.t 18)⟩])
    (.cond (.t 19) (.seq (.region [⟨some 4, none, .mov (.c (.int .i64 1))⟩])
    .ret)
    .skip))
    (.seq (.region [⟨some 4, none, .mov (.c (.int .i64 0))⟩])
    .ret)))))))), [.tmp 4]⟩
theorem T_cmp_Compare_uint64 : trFn Tryz.prog [] Tryz.f263 = some A_cmp_Compare_uint64 := by kernel_rfl
theorem L_cmp_Compare_uint64 : 2 ≤ Tryz.f263.ntmps := by decide

/-! cartouche/scalar.Numeric -/
def A_scalar_Numeric : AFn := ⟨(.seq (.region [⟨some 2, none, .mov (.c (.bool false))⟩])
    (.seq (.region [⟨some 6, none, .mov (.t 0)⟩,
      ⟨some 7, none, .call i_scalar_Wire [.t 6]⟩,
      ⟨some 5, none, .mov (.t 7)⟩,
      ⟨some 8, none, .ext 0 (.t 5)⟩,
      ⟨some 9, none, .ext 1 (.t 5)⟩,
      ⟨some 3, none, .mov (.t 8)⟩,
      ⟨some 4, none, .mov (.t 9)⟩])
    (.seq (.region [⟨some 10, none, .mov (.t 4)⟩,
      ⟨some 11, none, .bin false .eql (.t 10) (.c (.int .i64 0))⟩,
      ⟨some 12, none, .mov (.t 11)⟩,
      ⟨some 13, some (12, true), .mov (.t 3)⟩,
      ⟨some 14, some (12, true), .bin false .neq (.t 13) (.c (.int .i64 2))⟩,
      ⟨some 15, none, .pickb (.t 12) (.t 14) (.c (.bool false))⟩,
      ⟨some 2, none, .mov (.t 15)⟩])
    .ret))), [.tmp 2]⟩
theorem T_scalar_Numeric : trFn Tryz.prog [] Tryz.f264 = some A_scalar_Numeric := by kernel_rfl
theorem L_scalar_Numeric : 1 ≤ Tryz.f264.ntmps := by decide

-- NOT 265 slices.overlaps[cartouche/api.Val]: IndexError('tuple index out of range')
/-! slices.rotateRight[cartouche/api.Val] -/
def A_slices_rotateRight_api_Val : AFn := ⟨(.region [⟨some 4, none, .mov (.t 0)⟩,
      ⟨some 5, none, .mov (.t 0)⟩,
      ⟨some 6, none, .len false (.t 5)⟩,
      ⟨some 7, none, .mov (.t 1)⟩,
      ⟨some 8, none, .bin false .sub (.t 6) (.t 7)⟩,
      ⟨some 9, none, .call i_slices_rotateLeft_api_Val [.t 4, .t 8]⟩]), []⟩
theorem T_slices_rotateRight_api_Val : trFn Tryz.prog [] Tryz.f266 = some A_slices_rotateRight_api_Val := by kernel_rfl
theorem L_slices_rotateRight_api_Val : 2 ≤ Tryz.f266.ntmps := by decide

/-! cartouche/scalar.may -/
def A_scalar_may : AFn := ⟨(.seq (.region [⟨some 3, none, .box 0 (.t 1)⟩,
      ⟨some 4, none, .mov (.c (.int .i64 0))⟩])
    (.seq (.block 0 (.seq (.region [⟨some 6, none, .mov (.t 0)⟩,
      ⟨some 7, none, .call i_scalar_known [.t 6]⟩,
      ⟨some 8, none, .un .not (.t 7)⟩,
      ⟨some 5, none, .mov (.t 8)⟩])
    (.cond (.t 5) (.seq (.region [⟨some 4, none, .mov (.c (.int .i64 18))⟩])
    .ret)
    (.seq (.region [⟨some 10, none, .mov (.t 0)⟩,
      ⟨some 11, none, .load 3 true (.t 3)⟩,
      ⟨some 12, none, .call i_scalar_Fits [.t 10, .t 11]⟩,
      ⟨some 13, none, .un .not (.t 12)⟩,
      ⟨some 9, none, .mov (.t 13)⟩])
    (.cond (.t 9) (.seq (.region [⟨some 4, none, .mov (.c (.int .i64 7))⟩])
    .ret)
    (.seq (.region [⟨some 15, none, .mov (.t 0)⟩,
      ⟨some 16, none, .bin false .eql (.t 15) (.c (.int .i64 14))⟩,
      ⟨some 17, none, .mov (.t 16)⟩,
      ⟨some 18, some (17, true), .fldA 1 1 false (.t 3)⟩,
      ⟨some 19, some (17, true), .load 1 false (.t 18)⟩,
      ⟨some 20, some (17, true), .call i_quote_Valid [.t 19]⟩,
      ⟨some 21, some (17, true), .un .not (.t 20)⟩,
      ⟨some 22, none, .pickb (.t 17) (.t 21) (.c (.bool false))⟩,
      ⟨some 14, none, .mov (.t 22)⟩])
    (.cond (.t 14) (.seq (.region [⟨some 4, none, .mov (.c (.int .i64 8))⟩])
    .ret)
    .skip)))))))
    (.seq (.region [⟨some 4, none, .mov (.c (.int .i64 0))⟩])
    .ret))), [.tmp 4]⟩
theorem T_scalar_may : trFn Tryz.prog [(0, [1, 0])] Tryz.f269 = some A_scalar_may := by kernel_rfl
theorem L_scalar_may : 2 ≤ Tryz.f269.ntmps := by decide

/-! cartouche/wire.PutFix64 -/
def A_wire_PutFix64 : AFn := ⟨(.seq (.region [⟨some 2, none, .mov (.c (.nil))⟩])
    (.seq (.region [⟨some 3, none, .mov (.t 0)⟩,
      ⟨some 4, none, .call i_wire_word [.t 3, .c (.int .i64 8)]⟩,
      ⟨some 2, none, .mov (.t 4)⟩])
    .ret)), [.tmp 2]⟩
theorem T_wire_PutFix64 : trFn Tryz.prog [] Tryz.f270 = some A_wire_PutFix64 := by kernel_rfl
theorem L_wire_PutFix64 : 1 ≤ Tryz.f270.ntmps := by decide

/-! cartouche/wire.ZigZag -/
def A_wire_ZigZag : AFn := ⟨(.seq (.region [⟨some 2, none, .mov (.c (.int .u64 0))⟩])
    (.seq (.region [⟨some 3, none, .mov (.t 0)⟩,
      ⟨some 4, none, .conv .u64 (.t 3)⟩,
      ⟨some 5, none, .bin false .shl (.t 4) (.c (.int .u64 1))⟩,
      ⟨some 6, none, .mov (.t 0)⟩,
      ⟨some 7, none, .bin false .shr (.t 6) (.c (.int .u64 63))⟩,
      ⟨some 8, none, .conv .u64 (.t 7)⟩,
      ⟨some 9, none, .bin false .xor (.t 5) (.t 8)⟩,
      ⟨some 2, none, .mov (.t 9)⟩])
    .ret)), [.tmp 2]⟩
theorem T_wire_ZigZag : trFn Tryz.prog [] Tryz.f271 = some A_wire_ZigZag := by kernel_rfl
theorem L_wire_ZigZag : 1 ≤ Tryz.f271.ntmps := by decide

/-! (*cartouche/interp.cursor).message -/
def A_interp_cursor_message : AFn := ⟨(.seq (.region [⟨some 6, none, .box 0 (.t 1)⟩,
      ⟨some 9, none, .box 0 (.t 4)⟩,
      ⟨some 10, none, .alloc 0 [.nil, .nil]⟩])
    (.seq (.block 0 (.loop (.seq (.seq (.region [⟨some 11, none, .mov (.t 0)⟩,
      ⟨some 12, none, .call i_interp_cursor_done [.t 11]⟩,
      ⟨some 13, none, .un .not (.t 12)⟩])
    (.cond (.t 13) .skip
    (.exit 0)))
    (.block 1 (.region [⟨some 14, none, .mov (.t 0)⟩,
      ⟨some 15, none, .load 1 true (.t 6)⟩,
      ⟨some 16, none, .mov (.t 2)⟩,
      ⟨some 17, none, .mov (.t 3)⟩,
      ⟨some 18, none, .call i_interp_cursor_entry [.t 14, .t 15, .t 16, .t 17, .t 9]⟩])))))
    (.seq (.region [⟨some 19, none, .load 2 true (.t 9)⟩,
      ⟨none, none, .store 2 (.t 10) (.t 19)⟩])
    .ret))), [.cell 10 2 true]⟩
theorem T_interp_cursor_message : trFn Tryz.prog [(0, [1, 1, 1])] Tryz.f272 = some A_interp_cursor_message := by kernel_rfl
theorem L_interp_cursor_message : 5 ≤ Tryz.f272.ntmps := by decide

/-! cartouche/scalar.Get -/
def A_scalar_Get : AFn := ⟨(.seq (.region [⟨some 6, none, .alloc 0 [.int .u64 0, .nil, .nil]⟩,
      ⟨some 7, none, .mov (.c (.int .i64 0))⟩,
      ⟨some 8, none, .mov (.c (.int .i64 0))⟩])
    (.seq (.seq (.region [⟨some 12, none, .mov (.t 0)⟩,
      ⟨some 13, none, .call i_scalar_known [.t 12]⟩,
      ⟨some 14, none, .un .not (.t 13)⟩])
    (.cond (.t 14) (.seq (.region [⟨some 15, none, .build [.int .u64 0, .nil, .nil] []⟩,
      ⟨none, none, .store 3 (.t 6) (.t 15)⟩,
      ⟨some 7, none, .mov (.c (.int .i64 0))⟩,
      ⟨some 8, none, .mov (.c (.int .i64 18))⟩])
    .ret)
    .skip))
    (.seq (.seq (.region [⟨some 17, none, .mov (.t 0)⟩,
      ⟨some 18, none, .call i_scalar_Wire [.t 17]⟩,
      ⟨some 16, none, .mov (.t 18)⟩,
      ⟨some 19, none, .ext 0 (.t 16)⟩,
      ⟨some 20, none, .ext 1 (.t 16)⟩,
      ⟨some 9, none, .mov (.t 19)⟩,
      ⟨some 10, none, .mov (.t 20)⟩])
    (.seq (.region [⟨some 21, none, .mov (.t 9)⟩])
    (.block 0 (.seq (.region [⟨some 42, none, .bin false .eql (.t 21) (.c (.int .i64 2))⟩,
      ⟨some 41, none, .mov (.t 42)⟩])
    (.cond (.t 41) (.region [⟨some 44, none, .mov (.t 1)⟩,
      ⟨some 45, none, .mov (.t 2)⟩,
      ⟨some 46, none, .call i_wire_GetChunk [.t 44, .t 45]⟩,
      ⟨some 43, none, .mov (.t 46)⟩,
      ⟨some 47, none, .ext 0 (.t 43)⟩,
      ⟨some 48, none, .ext 1 (.t 43)⟩,
      ⟨some 49, none, .ext 2 (.t 43)⟩,
      ⟨some 50, none, .fldA 1 1 false (.t 6)⟩,
      ⟨none, none, .store 1 (.t 50) (.t 47)⟩,
      ⟨some 7, none, .mov (.t 48)⟩,
      ⟨some 8, none, .mov (.t 49)⟩])
    (.seq (.region [⟨some 52, none, .bin false .eql (.t 21) (.c (.int .i64 5))⟩,
      ⟨some 51, none, .mov (.t 52)⟩])
    (.cond (.t 51) (.seq (.region [⟨some 11, none, .mov (.c (.int .u32 0))⟩])
    (.seq (.region [⟨some 54, none, .mov (.t 1)⟩,
      ⟨some 55, none, .mov (.t 2)⟩,
      ⟨some 56, none, .call i_wire_GetFix32 [.t 54, .t 55]⟩,
      ⟨some 53, none, .mov (.t 56)⟩,
      ⟨some 57, none, .ext 0 (.t 53)⟩,
      ⟨some 58, none, .ext 1 (.t 53)⟩,
      ⟨some 59, none, .ext 2 (.t 53)⟩,
      ⟨some 11, none, .mov (.t 57)⟩,
      ⟨some 7, none, .mov (.t 58)⟩,
      ⟨some 8, none, .mov (.t 59)⟩])
    (.seq (.region [⟨some 60, none, .mov (.t 11)⟩,
      ⟨some 61, none, .conv .u64 (.t 60)⟩,
      ⟨some 62, none, .fldA 0 1 false (.t 6)⟩,
      ⟨none, none, .store 1 (.t 62) (.t 61)⟩])
    (.seq (.region [⟨some 63, none, .mov (.t 0)⟩,
      ⟨some 64, none, .bin false .eql (.t 63) (.c (.int .i64 10))⟩])
    (.cond (.t 64) (.region [⟨some 65, none, .mov (.t 11)⟩,
      ⟨some 66, none, .conv .i32 (.t 65)⟩,
      ⟨some 67, none, .conv .u64 (.t 66)⟩,
      ⟨some 68, none, .fldA 0 1 false (.t 6)⟩,
      ⟨none, none, .store 1 (.t 68) (.t 67)⟩])
    .skip)))))
    (.seq (.region [⟨some 70, none, .bin false .eql (.t 21) (.c (.int .i64 1))⟩,
      ⟨some 69, none, .mov (.t 70)⟩])
    (.cond (.t 69) (.region [⟨some 72, none, .mov (.t 1)⟩,
      ⟨some 73, none, .mov (.t 2)⟩,
      ⟨some 74, none, .call i_wire_GetFix64 [.t 72, .t 73]⟩,
      ⟨some 71, none, .mov (.t 74)⟩,
      ⟨some 75, none, .ext 0 (.t 71)⟩,
      ⟨some 76, none, .ext 1 (.t 71)⟩,
      ⟨some 77, none, .ext 2 (.t 71)⟩,
      ⟨some 78, none, .fldA 0 1 false (.t 6)⟩,
      ⟨none, none, .store 1 (.t 78) (.t 75)⟩,
      ⟨some 7, none, .mov (.t 76)⟩,
      ⟨some 8, none, .mov (.t 77)⟩])
    (.seq (.region [⟨some 23, none, .mov (.t 1)⟩,
      ⟨some 24, none, .mov (.t 2)⟩,
      ⟨some 25, none, .call i_wire_GetVarint [.t 23, .t 24]⟩,
      ⟨some 22, none, .mov (.t 25)⟩,
      ⟨some 26, none, .ext 0 (.t 22)⟩,
      ⟨some 27, none, .ext 1 (.t 22)⟩,
      ⟨some 28, none, .ext 2 (.t 22)⟩,
      ⟨some 29, none, .fldA 0 1 false (.t 6)⟩,
      ⟨none, none, .store 1 (.t 29) (.t 26)⟩,
      ⟨some 7, none, .mov (.t 27)⟩,
      ⟨some 8, none, .mov (.t 28)⟩])
    (.seq (.region [⟨some 30, none, .mov (.t 0)⟩,
      ⟨some 31, none, .bin false .eql (.t 30) (.c (.int .i64 6))⟩,
      ⟨some 32, none, .mov (.t 31)⟩,
      ⟨some 33, some (32, false), .mov (.t 0)⟩,
      ⟨some 34, some (32, false), .bin false .eql (.t 33) (.c (.int .i64 7))⟩,
      ⟨some 35, none, .pickb (.t 32) (.c (.bool true)) (.t 34)⟩])
    (.cond (.t 35) (.region [⟨some 36, none, .fldA 0 1 false (.t 6)⟩,
      ⟨some 37, none, .load 1 false (.t 36)⟩,
      ⟨some 38, none, .call i_wire_ZagZig [.t 37]⟩,
      ⟨some 39, none, .conv .u64 (.t 38)⟩,
      ⟨some 40, none, .fldA 0 1 false (.t 6)⟩,
      ⟨none, none, .store 1 (.t 40) (.t 39)⟩])
    .skip))))))))))))
    (.seq (.seq (.region [⟨some 79, none, .mov (.t 8)⟩,
      ⟨some 80, none, .bin false .eql (.t 79) (.c (.int .i64 0))⟩])
    (.cond (.t 80) (.region [⟨some 81, none, .mov (.t 0)⟩,
      ⟨some 82, none, .load 3 true (.t 6)⟩,
      ⟨some 83, none, .call i_scalar_may [.t 81, .t 82]⟩,
      ⟨some 8, none, .mov (.t 83)⟩])
    .skip))
    (.seq (.seq (.region [⟨some 84, none, .mov (.t 8)⟩,
      ⟨some 85, none, .bin false .neq (.t 84) (.c (.int .i64 0))⟩])
    (.cond (.t 85) (.seq (.region [⟨some 86, none, .build [.int .u64 0, .nil, .nil] []⟩,
      ⟨some 87, none, .mov (.t 8)⟩,
      ⟨none, none, .store 3 (.t 6) (.t 86)⟩,
      ⟨some 7, none, .mov (.c (.int .i64 0))⟩,
      ⟨some 8, none, .mov (.t 87)⟩])
    .ret)
    .skip))
    (.seq (.region [⟨some 88, none, .load 3 true (.t 6)⟩,
      ⟨some 89, none, .mov (.t 7)⟩,
      ⟨none, none, .store 3 (.t 6) (.t 88)⟩,
      ⟨some 7, none, .mov (.t 89)⟩,
      ⟨some 8, none, .mov (.c (.int .i64 0))⟩])
    .ret)))))), [.cell 6 3 true, .tmp 7, .tmp 8]⟩
theorem T_scalar_Get : trFn Tryz.prog [(0, [1, 0, 0])] Tryz.f273 = some A_scalar_Get := by kernel_rfl
theorem L_scalar_Get : 3 ≤ Tryz.f273.ntmps := by decide

/-! cartouche/interp.Default -/
def A_interp_Default : AFn := ⟨(.seq (.region [⟨some 2, none, .alloc 0 [.int .u64 0, .nil, .nil]⟩])
    (.seq (.seq (.region [⟨some 3, none, .mov (.t 0)⟩,
      ⟨some 4, none, .bin false .eql (.t 3) (.c (.int .i64 17))⟩])
    (.cond (.t 4) (.seq (.region [⟨some 5, none, .build [.nil, .nil] []⟩,
      ⟨some 6, none, .blit 0 35 2 [.t 5]⟩,
      ⟨some 7, none, .build [.int .u64 0, .nil, .nil] [(2, 1, .t 6)]⟩,
      ⟨none, none, .store 3 (.t 2) (.t 7)⟩])
    .ret)
    .skip))
    (.seq (.region [⟨some 8, none, .build [.int .u64 0, .nil, .nil] []⟩,
      ⟨none, none, .store 3 (.t 2) (.t 8)⟩])
    .ret))), [.cell 2 3 true]⟩
theorem T_interp_Default : trFn Tryz.prog [(0, [1]), (2, [0, 1, 0, 0])] Tryz.f274 = some A_interp_Default := by kernel_rfl
theorem L_interp_Default : 1 ≤ Tryz.f274.ntmps := by decide

/-! strings.genSplit -/
def A_strings_genSplit : AFn := ⟨(.seq (.region [⟨some 8, none, .mov (.c (.nil))⟩])
    (.seq (.seq (.region [⟨some 12, none, .mov (.t 3)⟩,
      ⟨some 13, none, .bin false .eql (.t 12) (.c (.int .i64 0))⟩])
    (.cond (.t 13) (.seq (.region [⟨some 8, none, .mov (.c (.nil))⟩])
    .ret)
    .skip))
    (.seq (.seq (.region [⟨some 14, none, .mov (.t 1)⟩,
      ⟨some 15, none, .bin false .eql (.t 14) (.c (.str ⟨#[]⟩))⟩])
    (.cond (.t 15) (.seq (.region [⟨some 16, none, .mov (.t 0)⟩,
      ⟨some 17, none, .mov (.t 3)⟩,
      ⟨some 18, none, .call i_strings_explode [.t 16, .t 17]⟩,
      ⟨some 8, none, .mov (.t 18)⟩])
    .ret)
    .skip))
    (.seq (.seq (.region [⟨some 19, none, .mov (.t 3)⟩,
      ⟨some 20, none, .bin false .lss (.t 19) (.c (.int .i64 0))⟩])
    (.cond (.t 20) (.region [⟨some 21, none, .mov (.t 0)⟩,
      ⟨some 22, none, .mov (.t 1)⟩,
      ⟨some 23, none, .call i_strings_Count [.t 21, .t 22]⟩,
      ⟨some 24, none, .bin false .add (.t 23) (.c (.int .i64 1))⟩,
      ⟨some 3, none, .mov (.t 24)⟩])
    .skip))
    (.seq (.region [⟨some 25, none, .mov (.t 3)⟩,
      ⟨some 26, none, .mov (.t 0)⟩,
      ⟨some 27, none, .len true (.t 26)⟩,
      ⟨some 28, none, .bin false .add (.t 27) (.c (.int .i64 1))⟩,
      ⟨some 29, none, .mm false (.t 25) (.t 28)⟩,
      ⟨some 3, none, .mov (.t 29)⟩])
    (.seq (.region [⟨some 30, none, .mov (.t 3)⟩,
      ⟨some 31, none, .mks 0 9 1 16 (.str ⟨#[]⟩) (.t 30) (.t 30)⟩,
      ⟨some 9, none, .mov (.t 31)⟩])
    (.seq (.region [⟨some 32, none, .mov (.t 3)⟩,
      ⟨some 33, none, .bin false .sub (.t 32) (.c (.int .i64 1))⟩,
      ⟨some 3, none, .mov (.t 33)⟩])
    (.seq (.region [⟨some 10, none, .mov (.c (.int .i64 0))⟩])
    (.seq (.block 0 (.loop (.seq (.seq (.region [⟨some 34, none, .mov (.t 10)⟩,
      ⟨some 35, none, .mov (.t 3)⟩,
      ⟨some 36, none, .bin false .lss (.t 34) (.t 35)⟩])
    (.cond (.t 36) .skip
    (.exit 0)))
    (.block 1 (.seq (.region [⟨some 37, none, .mov (.t 0)⟩,
      ⟨some 38, none, .mov (.t 1)⟩,
      ⟨some 39, none, .call i_strings_Index [.t 37, .t 38]⟩,
      ⟨some 11, none, .mov (.t 39)⟩])
    (.seq (.seq (.region [⟨some 40, none, .mov (.t 11)⟩,
      ⟨some 41, none, .bin false .lss (.t 40) (.c (.int .i64 0))⟩])
    (.cond (.t 41) (.exit 0)
    .skip))
    (.seq (.region [⟨some 42, none, .mov (.t 9)⟩,
      ⟨some 43, none, .mov (.t 10)⟩,
      ⟨some 44, none, .mov (.t 0)⟩,
      ⟨some 45, none, .mov (.t 11)⟩,
      ⟨some 46, none, .mov (.t 2)⟩,
      ⟨some 47, none, .bin false .add (.t 45) (.t 46)⟩,
      ⟨some 48, none, .slcS (.t 44) none (some (.t 47))⟩,
      ⟨some 49, none, .idxA 1 (.t 42) (.t 43)⟩,
      ⟨none, none, .store 1 (.t 49) (.t 48)⟩])
    (.seq (.region [⟨some 50, none, .mov (.t 0)⟩,
      ⟨some 51, none, .mov (.t 11)⟩,
      ⟨some 52, none, .mov (.t 1)⟩,
      ⟨some 53, none, .len true (.t 52)⟩,
      ⟨some 54, none, .bin false .add (.t 51) (.t 53)⟩,
      ⟨some 55, none, .slcS (.t 50) (some (.t 54)) none⟩,
      ⟨some 0, none, .mov (.t 55)⟩])
    (.region [⟨some 56, none, .mov (.t 10)⟩,
      ⟨some 57, none, .bin false .add (.t 56) (.c (.int .i64 1))⟩,
      ⟨some 10, none, .mov (.t 57)⟩])))))))))
    (.seq (.region [⟨some 58, none, .mov (.t 9)⟩,
      ⟨some 59, none, .mov (.t 10)⟩,
      ⟨some 60, none, .mov (.t 0)⟩,
      ⟨some 61, none, .idxA 1 (.t 58) (.t 59)⟩,
      ⟨none, none, .store 1 (.t 61) (.t 60)⟩])
    (.seq (.region [⟨some 62, none, .mov (.t 9)⟩,
      ⟨some 63, none, .mov (.t 10)⟩,
      ⟨some 64, none, .bin false .add (.t 63) (.c (.int .i64 1))⟩,
      ⟨some 65, none, .slc 1 (.t 62) none (some (.t 64)) none⟩,
      ⟨some 8, none, .mov (.t 65)⟩])
    .ret))))))))))), [.tmp 8]⟩
theorem T_strings_genSplit : trFn Tryz.prog [] Tryz.f275 = some A_strings_genSplit := by kernel_rfl
theorem L_strings_genSplit : 4 ≤ Tryz.f275.ntmps := by decide

/-! cartouche/lex.letter -/
def A_lex_letter : AFn := ⟨(.seq (.region [⟨some 2, none, .mov (.c (.bool false))⟩])
    (.seq (.region [⟨some 3, none, .mov (.t 0)⟩,
      ⟨some 4, none, .bin false .geq (.t 3) (.c (.int .u8 97))⟩,
      ⟨some 5, none, .mov (.t 4)⟩,
      ⟨some 6, some (5, true), .mov (.t 0)⟩,
      ⟨some 7, some (5, true), .bin false .leq (.t 6) (.c (.int .u8 122))⟩,
      ⟨some 8, none, .pickb (.t 5) (.t 7) (.c (.bool false))⟩,
      ⟨some 9, none, .mov (.t 8)⟩,
      ⟨some 10, some (9, false), .mov (.t 0)⟩,
      ⟨some 11, some (9, false), .bin false .geq (.t 10) (.c (.int .u8 65))⟩,
      ⟨some 12, some (9, false), .mov (.t 11)⟩,
      ⟨some 13, some (12, true), .mov (.t 0)⟩,
      ⟨some 14, some (12, true), .bin false .leq (.t 13) (.c (.int .u8 90))⟩,
      ⟨some 15, some (9, false), .pickb (.t 12) (.t 14) (.c (.bool false))⟩,
      ⟨some 16, none, .pickb (.t 9) (.c (.bool true)) (.t 15)⟩,
      ⟨some 17, none, .mov (.t 16)⟩,
      ⟨some 18, some (17, false), .mov (.t 0)⟩,
      ⟨some 19, some (17, false), .bin false .eql (.t 18) (.c (.int .u8 95))⟩,
      ⟨some 20, none, .pickb (.t 17) (.c (.bool true)) (.t 19)⟩,
      ⟨some 2, none, .mov (.t 20)⟩])
    .ret)), [.tmp 2]⟩
theorem T_lex_letter : trFn Tryz.prog [] Tryz.f276 = some A_lex_letter := by kernel_rfl
theorem L_lex_letter : 1 ≤ Tryz.f276.ntmps := by decide

/-! cartouche/lex.named -/
def A_lex_named : AFn := ⟨(.seq (.region [⟨some 4, none, .mov (.c (.int .i64 0))⟩])
    (.seq (.block 0 (.loop (.seq (.seq (.region [⟨some 5, none, .mov (.t 1)⟩,
      ⟨some 6, none, .mov (.t 0)⟩,
      ⟨some 7, none, .len true (.t 6)⟩,
      ⟨some 8, none, .bin false .lss (.t 5) (.t 7)⟩,
      ⟨some 9, none, .mov (.t 8)⟩,
      ⟨some 10, some (9, true), .mov (.t 0)⟩,
      ⟨some 11, some (9, true), .mov (.t 1)⟩,
      ⟨some 12, some (9, true), .idxS (.t 10) (.t 11)⟩,
      ⟨some 13, some (9, true), .call i_lex_letter [.t 12]⟩,
      ⟨some 14, some (9, true), .mov (.t 13)⟩,
      ⟨some 15, some (14, false), .mov (.t 0)⟩,
      ⟨some 16, some (14, false), .mov (.t 1)⟩,
      ⟨some 17, some (14, false), .idxS (.t 15) (.t 16)⟩,
      ⟨some 18, some (14, false), .call i_lex_digit [.t 17]⟩,
      ⟨some 19, some (9, true), .pickb (.t 14) (.c (.bool true)) (.t 18)⟩,
      ⟨some 20, none, .pickb (.t 9) (.t 19) (.c (.bool false))⟩])
    (.cond (.t 20) .skip
    (.exit 0)))
    (.block 1 (.region [⟨some 21, none, .mov (.t 1)⟩,
      ⟨some 22, none, .bin false .add (.t 21) (.c (.int .i64 1))⟩,
      ⟨some 1, none, .mov (.t 22)⟩])))))
    (.seq (.region [⟨some 23, none, .mov (.t 1)⟩,
      ⟨some 4, none, .mov (.t 23)⟩])
    .ret))), [.tmp 4]⟩
theorem T_lex_named : trFn Tryz.prog [] Tryz.f277 = some A_lex_named := by kernel_rfl
theorem L_lex_named : 2 ≤ Tryz.f277.ntmps := by decide

/-! slices.rotateLeft[cartouche/api.Field] -/
def A_slices_rotateLeft_api_Field : AFn := ⟨(.seq (.region [⟨some 4, none, .mov (.t 0)⟩,
      ⟨some 5, none, .mov (.t 1)⟩,
      ⟨some 6, none, .slc 3 (.t 4) none (some (.t 5)) none⟩,
      ⟨some 7, none, .call i_slices_Reverse_api_Field_api_Field [.t 6]⟩])
    (.seq (.region [⟨some 8, none, .mov (.t 0)⟩,
      ⟨some 9, none, .mov (.t 1)⟩,
      ⟨some 10, none, .slc 3 (.t 8) (some (.t 9)) none none⟩,
      ⟨some 11, none, .call i_slices_Reverse_api_Field_api_Field [.t 10]⟩])
    (.region [⟨some 12, none, .mov (.t 0)⟩,
      ⟨some 13, none, .call i_slices_Reverse_api_Field_api_Field [.t 12]⟩]))), []⟩
theorem T_slices_rotateLeft_api_Field : trFn Tryz.prog [] Tryz.f281 = some A_slices_rotateLeft_api_Field := by kernel_rfl
theorem L_slices_rotateLeft_api_Field : 2 ≤ Tryz.f281.ntmps := by decide

/-! cartouche/scalar.known -/
def A_scalar_known : AFn := ⟨(.seq (.region [⟨some 2, none, .mov (.c (.bool false))⟩])
    (.seq (.region [⟨some 3, none, .mov (.t 0)⟩,
      ⟨some 4, none, .bin false .geq (.t 3) (.c (.int .i64 1))⟩,
      ⟨some 5, none, .mov (.t 4)⟩,
      ⟨some 6, some (5, true), .mov (.t 0)⟩,
      ⟨some 7, some (5, true), .bin false .leq (.t 6) (.c (.int .i64 16))⟩,
      ⟨some 8, none, .pickb (.t 5) (.t 7) (.c (.bool false))⟩,
      ⟨some 2, none, .mov (.t 8)⟩])
    .ret)), [.tmp 2]⟩
theorem T_scalar_known : trFn Tryz.prog [] Tryz.f296 = some A_scalar_known := by kernel_rfl
theorem L_scalar_known : 1 ≤ Tryz.f296.ntmps := by decide

/-! cartouche/scalar.holds -/
def A_scalar_holds : AFn := ⟨(.seq (.region [⟨some 4, none, .mov (.c (.bool false))⟩])
    (.seq (.seq (.region [⟨some 5, none, .mov (.t 0)⟩])
    (.block 0 (.seq (.region [⟨some 7, none, .bin false .eql (.t 5) (.c (.int .i64 1))⟩,
      ⟨some 6, none, .mov (.t 7)⟩])
    (.cond (.t 6) (.seq (.region [⟨some 8, none, .mov (.t 1)⟩,
      ⟨some 9, none, .bin false .leq (.t 8) (.c (.int .u64 1))⟩,
      ⟨some 4, none, .mov (.t 9)⟩])
    .ret)
    (.seq (.seq (.region [⟨some 11, none, .bin false .eql (.t 5) (.c (.int .i64 2))⟩,
      ⟨some 10, none, .mov (.t 11)⟩])
    (.cond (.t 10) .skip
    (.seq (.region [⟨some 12, none, .bin false .eql (.t 5) (.c (.int .i64 6))⟩,
      ⟨some 10, none, .mov (.t 12)⟩])
    (.cond (.t 10) .skip
    (.region [⟨some 13, none, .bin false .eql (.t 5) (.c (.int .i64 10))⟩,
      ⟨some 10, none, .mov (.t 13)⟩])))))
    (.cond (.t 10) (.seq (.region [⟨some 14, none, .mov (.t 1)⟩,
      ⟨some 15, none, .conv .i64 (.t 14)⟩,
      ⟨some 16, none, .mov (.t 1)⟩,
      ⟨some 17, none, .conv .i32 (.t 16)⟩,
      ⟨some 18, none, .conv .i64 (.t 17)⟩,
      ⟨some 19, none, .bin false .eql (.t 15) (.t 18)⟩,
      ⟨some 4, none, .mov (.t 19)⟩])
    .ret)
    (.seq (.region [⟨some 21, none, .bin false .eql (.t 5) (.c (.int .i64 16))⟩,
      ⟨some 20, none, .mov (.t 21)⟩])
    (.cond (.t 20) (.seq (.region [⟨some 22, none, .mov (.t 1)⟩,
      ⟨some 23, none, .bin false .leq (.t 22) (.c (.int .u64 2147483647))⟩,
      ⟨some 4, none, .mov (.t 23)⟩])
    .ret)
    (.seq (.seq (.region [⟨some 25, none, .bin false .eql (.t 5) (.c (.int .i64 4))⟩,
      ⟨some 24, none, .mov (.t 25)⟩])
    (.cond (.t 24) .skip
    (.seq (.region [⟨some 26, none, .bin false .eql (.t 5) (.c (.int .i64 8))⟩,
      ⟨some 24, none, .mov (.t 26)⟩])
    (.cond (.t 24) .skip
    (.region [⟨some 27, none, .bin false .eql (.t 5) (.c (.int .i64 12))⟩,
      ⟨some 24, none, .mov (.t 27)⟩])))))
    (.cond (.t 24) (.seq (.region [⟨some 28, none, .mov (.t 1)⟩,
      ⟨some 29, none, .bin false .leq (.t 28) (.c (.int .u64 4294967295))⟩,
      ⟨some 4, none, .mov (.t 29)⟩])
    .ret)
    .skip))))))))))
    (.seq (.region [⟨some 4, none, .mov (.c (.bool true))⟩])
    .ret))), [.tmp 4]⟩
theorem T_scalar_holds : trFn Tryz.prog [] Tryz.f297 = some A_scalar_holds := by kernel_rfl
theorem L_scalar_holds : 2 ≤ Tryz.f297.ntmps := by decide

/-! unicode/utf8.Valid -/
def A_utf8_Valid : AFn := ⟨(.seq (.region [⟨some 2, none, .mov (.c (.bool false))⟩])
    (.seq (.region [⟨some 7, none, .mov (.t 0)⟩,
      ⟨some 8, none, .mov (.t 0)⟩,
      ⟨some 9, none, .len false (.t 8)⟩,
      ⟨some 10, none, .mov (.t 0)⟩,
      ⟨some 11, none, .len false (.t 10)⟩,
      ⟨some 12, none, .slc 1 (.t 7) none (some (.t 9)) (some (.t 11))⟩,
      ⟨some 0, none, .mov (.t 12)⟩])
    (.seq (.block 0 (.loop (.seq (.seq (.region [⟨some 13, none, .mov (.t 0)⟩,
      ⟨some 14, none, .len false (.t 13)⟩,
      ⟨some 15, none, .bin false .gtr (.t 14) (.c (.int .i64 0))⟩])
    (.cond (.t 15) .skip
    (.exit 0)))
    (.block 1 (.seq (.region [⟨some 16, none, .mov (.t 0)⟩,
      ⟨some 17, none, .idxA 1 (.t 16) (.c (.int .i64 0))⟩,
      ⟨some 18, none, .load 1 false (.t 17)⟩,
      ⟨some 3, none, .mov (.t 18)⟩])
    (.seq (.seq (.region [⟨some 19, none, .mov (.t 3)⟩,
      ⟨some 20, none, .bin false .lss (.t 19) (.c (.int .u8 128))⟩])
    (.cond (.t 20) (.seq (.region [⟨some 21, none, .mov (.t 0)⟩,
      ⟨some 22, none, .slc 1 (.t 21) (some (.c (.int .i64 1))) none none⟩,
      ⟨some 0, none, .mov (.t 22)⟩])
    (.seq (.seq (.region [⟨some 23, none, .mov (.t 0)⟩,
      ⟨some 24, none, .len false (.t 23)⟩,
      ⟨some 25, none, .bin false .gtr (.t 24) (.c (.int .i64 8))⟩,
      ⟨some 26, none, .mov (.t 25)⟩,
      ⟨some 27, some (26, true), .mov (.t 0)⟩,
      ⟨some 28, some (26, true), .call i_utf8_word_byte [.t 27]⟩,
      ⟨some 29, some (26, true), .bin false .and (.t 28) (.c (.int .u64 9259542123273814144))⟩,
      ⟨some 30, some (26, true), .bin false .eql (.t 29) (.c (.int .u64 0))⟩,
      ⟨some 31, none, .pickb (.t 26) (.t 30) (.c (.bool false))⟩])
    (.cond (.t 31) (.seq (.region [⟨some 32, none, .mov (.t 0)⟩,
      ⟨some 33, none, .slc 1 (.t 32) (some (.c (.int .i64 8))) none none⟩,
      ⟨some 0, none, .mov (.t 33)⟩])
    (.seq (.draw [1, 5, 8] [⟨some 34, none, .mov (.t 0)⟩,
      ⟨some 35, none, .len false (.t 34)⟩,
      ⟨some 36, none, .bin false .gtr (.t 35) (.c (.int .i64 16))⟩,
      ⟨some 37, none, .mov (.t 36)⟩,
      ⟨some 38, some (37, true), .mov (.t 0)⟩,
      ⟨some 39, some (37, true), .call i_utf8_word_byte [.t 38]⟩,
      ⟨some 40, some (37, true), .mov (.t 0)⟩,
      ⟨some 41, some (37, true), .slc 1 (.t 40) (some (.c (.int .i64 8))) none none⟩,
      ⟨some 42, some (37, true), .call i_utf8_word_byte [.t 41]⟩,
      ⟨some 43, some (37, true), .bin false .or (.t 39) (.t 42)⟩,
      ⟨some 44, some (37, true), .bin false .and (.t 43) (.c (.int .u64 9259542123273814144))⟩,
      ⟨some 45, some (37, true), .bin false .eql (.t 44) (.c (.int .u64 0))⟩,
      ⟨some 46, none, .pickb (.t 37) (.t 45) (.c (.bool false))⟩])
    (.cond (.t 46) (.seq (.region [⟨some 47, none, .mov (.t 0)⟩,
      ⟨some 48, none, .slc 1 (.t 47) (some (.c (.int .i64 16))) none none⟩,
      ⟨some 0, none, .mov (.t 48)⟩])
    (.block 2 (.loop (.seq (.seq (.draw [1, 5, 8, 12, 15] [⟨some 49, none, .mov (.t 0)⟩,
      ⟨some 50, none, .len false (.t 49)⟩,
      ⟨some 51, none, .bin false .gtr (.t 50) (.c (.int .i64 32))⟩,
      ⟨some 52, none, .mov (.t 51)⟩,
      ⟨some 53, some (52, true), .mov (.t 0)⟩,
      ⟨some 54, some (52, true), .call i_utf8_word_byte [.t 53]⟩,
      ⟨some 55, some (52, true), .mov (.t 0)⟩,
      ⟨some 56, some (52, true), .slc 1 (.t 55) (some (.c (.int .i64 8))) none none⟩,
      ⟨some 57, some (52, true), .call i_utf8_word_byte [.t 56]⟩,
      ⟨some 58, some (52, true), .bin false .or (.t 54) (.t 57)⟩,
      ⟨some 59, some (52, true), .mov (.t 0)⟩,
      ⟨some 60, some (52, true), .slc 1 (.t 59) (some (.c (.int .i64 16))) none none⟩,
      ⟨some 61, some (52, true), .call i_utf8_word_byte [.t 60]⟩,
      ⟨some 62, some (52, true), .mov (.t 0)⟩,
      ⟨some 63, some (52, true), .slc 1 (.t 62) (some (.c (.int .i64 24))) none none⟩,
      ⟨some 64, some (52, true), .call i_utf8_word_byte [.t 63]⟩,
      ⟨some 65, some (52, true), .bin false .or (.t 61) (.t 64)⟩,
      ⟨some 66, some (52, true), .bin false .or (.t 58) (.t 65)⟩,
      ⟨some 67, some (52, true), .bin false .and (.t 66) (.c (.int .u64 9259542123273814144))⟩,
      ⟨some 68, some (52, true), .bin false .eql (.t 67) (.c (.int .u64 0))⟩,
      ⟨some 69, none, .pickb (.t 52) (.t 68) (.c (.bool false))⟩])
    (.cond (.t 69) .skip
    (.exit 2)))
    (.block 3 (.region [⟨some 70, none, .mov (.t 0)⟩,
      ⟨some 71, none, .slc 1 (.t 70) (some (.c (.int .i64 32))) none none⟩,
      ⟨some 0, none, .mov (.t 71)⟩]))))))
    .skip)))
    .skip))
    (.exit 1)))
    .skip))
    (.seq (.region [⟨some 72, none, .mov (.t 3)⟩,
      ⟨some 73, none, .bad⟩,
      ⟨some 74, none, .load 1 false (.t 73)⟩,
      ⟨some 4, none, .mov (.t 74)⟩])
    (.seq (.region [⟨some 75, none, .mov (.t 4)⟩,
      ⟨some 76, none, .bin false .and (.t 75) (.c (.int .u8 7))⟩,
      ⟨some 77, none, .conv .i64 (.t 76)⟩,
      ⟨some 5, none, .mov (.t 77)⟩])
    (.seq (.region [⟨some 78, none, .mov (.t 4)⟩,
      ⟨some 79, none, .bin false .shr (.t 78) (.c (.int .u64 4))⟩,
      ⟨some 80, none, .bad⟩,
      ⟨some 81, none, .load 2 true (.t 80)⟩,
      ⟨some 6, none, .alloc 0 [.int .u8 0, .int .u8 0]⟩,
      ⟨none, none, .store 2 (.t 6) (.t 81)⟩])
    (.seq (.region [⟨some 82, none, .mov (.t 5)⟩])
    (.block 4 (.seq (.region [⟨some 84, none, .bin false .eql (.t 82) (.c (.int .i64 2))⟩,
      ⟨some 83, none, .mov (.t 84)⟩])
    (.cond (.t 83) (.seq (.seq (.draw [1, 5, 6, 13, 1000008, 1000015, 1000016] [⟨some 85, none, .mov (.t 0)⟩,
      ⟨some 86, none, .len false (.t 85)⟩,
      ⟨some 87, none, .bin false .lss (.t 86) (.c (.int .i64 2))⟩,
      ⟨some 88, none, .mov (.t 87)⟩,
      ⟨some 89, some (88, false), .mov (.t 0)⟩,
      ⟨some 90, some (88, false), .idxA 1 (.t 89) (.c (.int .i64 1))⟩,
      ⟨some 91, some (88, false), .load 1 false (.t 90)⟩,
      ⟨some 92, some (88, false), .fldA 0 1 false (.t 6)⟩,
      ⟨some 93, some (88, false), .load 1 false (.t 92)⟩,
      ⟨some 94, some (88, false), .bin false .lss (.t 91) (.t 93)⟩,
      ⟨some 95, none, .pickb (.t 88) (.c (.bool true)) (.t 94)⟩,
      ⟨some 96, none, .mov (.t 95)⟩,
      ⟨some 97, some (96, false), .fldA 1 1 false (.t 6)⟩,
      ⟨some 98, some (96, false), .load 1 false (.t 97)⟩,
      ⟨some 99, some (96, false), .mov (.t 0)⟩,
      ⟨some 100, some (96, false), .idxA 1 (.t 99) (.c (.int .i64 1))⟩,
      ⟨some 101, some (96, false), .load 1 false (.t 100)⟩,
      ⟨some 102, some (96, false), .bin false .lss (.t 98) (.t 101)⟩,
      ⟨some 103, none, .pickb (.t 96) (.c (.bool true)) (.t 102)⟩])
    (.cond (.t 103) (.seq (.region [⟨some 2, none, .mov (.c (.bool false))⟩])
    .ret)
    .skip))
    (.region [⟨some 104, none, .mov (.t 0)⟩,
      ⟨some 105, none, .slc 1 (.t 104) (some (.c (.int .i64 2))) none none⟩,
      ⟨some 0, none, .mov (.t 105)⟩]))
    (.seq (.region [⟨some 107, none, .bin false .eql (.t 82) (.c (.int .i64 3))⟩,
      ⟨some 106, none, .mov (.t 107)⟩])
    (.cond (.t 106) (.seq (.seq (.draw [1, 5, 6, 13, 21, 22, 27, 28, 1000008, 1000015, 1000016, 2000021, 2000022, 2000027, 2000028] [⟨some 108, none, .mov (.t 0)⟩,
      ⟨some 109, none, .len false (.t 108)⟩,
      ⟨some 110, none, .bin false .lss (.t 109) (.c (.int .i64 3))⟩,
      ⟨some 111, none, .mov (.t 110)⟩,
      ⟨some 112, some (111, false), .mov (.t 0)⟩,
      ⟨some 113, some (111, false), .idxA 1 (.t 112) (.c (.int .i64 1))⟩,
      ⟨some 114, some (111, false), .load 1 false (.t 113)⟩,
      ⟨some 115, some (111, false), .fldA 0 1 false (.t 6)⟩,
      ⟨some 116, some (111, false), .load 1 false (.t 115)⟩,
      ⟨some 117, some (111, false), .bin false .lss (.t 114) (.t 116)⟩,
      ⟨some 118, none, .pickb (.t 111) (.c (.bool true)) (.t 117)⟩,
      ⟨some 119, none, .mov (.t 118)⟩,
      ⟨some 120, some (119, false), .fldA 1 1 false (.t 6)⟩,
      ⟨some 121, some (119, false), .load 1 false (.t 120)⟩,
      ⟨some 122, some (119, false), .mov (.t 0)⟩,
      ⟨some 123, some (119, false), .idxA 1 (.t 122) (.c (.int .i64 1))⟩,
      ⟨some 124, some (119, false), .load 1 false (.t 123)⟩,
      ⟨some 125, some (119, false), .bin false .lss (.t 121) (.t 124)⟩,
      ⟨some 126, none, .pickb (.t 119) (.c (.bool true)) (.t 125)⟩,
      ⟨some 127, none, .mov (.t 126)⟩,
      ⟨some 128, some (127, false), .mov (.t 0)⟩,
      ⟨some 129, some (127, false), .idxA 1 (.t 128) (.c (.int .i64 2))⟩,
      ⟨some 130, some (127, false), .load 1 false (.t 129)⟩,
      ⟨some 131, some (127, false), .bin false .lss (.t 130) (.c (.int .u8 128))⟩,
      ⟨some 132, none, .pickb (.t 127) (.c (.bool true)) (.t 131)⟩,
      ⟨some 133, none, .mov (.t 132)⟩,
      ⟨some 134, some (133, false), .mov (.t 0)⟩,
      ⟨some 135, some (133, false), .idxA 1 (.t 134) (.c (.int .i64 2))⟩,
      ⟨some 136, some (133, false), .load 1 false (.t 135)⟩,
      ⟨some 137, some (133, false), .bin false .lss (.c (.int .u8 191)) (.t 136)⟩,
      ⟨some 138, none, .pickb (.t 133) (.c (.bool true)) (.t 137)⟩])
    (.cond (.t 138) (.seq (.region [⟨some 2, none, .mov (.c (.bool false))⟩])
    .ret)
    .skip))
    (.region [⟨some 139, none, .mov (.t 0)⟩,
      ⟨some 140, none, .slc 1 (.t 139) (some (.c (.int .i64 3))) none none⟩,
      ⟨some 0, none, .mov (.t 140)⟩]))
    (.seq (.region [⟨some 142, none, .bin false .eql (.t 82) (.c (.int .i64 4))⟩,
      ⟨some 141, none, .mov (.t 142)⟩])
    (.cond (.t 141) (.seq (.seq (.draw [1, 5, 6, 13, 21, 22, 27, 28, 33, 34, 39, 40, 1000008, 1000015, 1000016, 2000021, 2000022, 2000027, 2000028, 2000033, 2000034, 2000039, 2000040] [⟨some 143, none, .mov (.t 0)⟩,
      ⟨some 144, none, .len false (.t 143)⟩,
      ⟨some 145, none, .bin false .lss (.t 144) (.c (.int .i64 4))⟩,
      ⟨some 146, none, .mov (.t 145)⟩,
      ⟨some 147, some (146, false), .mov (.t 0)⟩,
      ⟨some 148, some (146, false), .idxA 1 (.t 147) (.c (.int .i64 1))⟩,
      ⟨some 149, some (146, false), .load 1 false (.t 148)⟩,
      ⟨some 150, some (146, false), .fldA 0 1 false (.t 6)⟩,
      ⟨some 151, some (146, false), .load 1 false (.t 150)⟩,
      ⟨some 152, some (146, false), .bin false .lss (.t 149) (.t 151)⟩,
      ⟨some 153, none, .pickb (.t 146) (.c (.bool true)) (.t 152)⟩,
      ⟨some 154, none, .mov (.t 153)⟩,
      ⟨some 155, some (154, false), .fldA 1 1 false (.t 6)⟩,
      ⟨some 156, some (154, false), .load 1 false (.t 155)⟩,
      ⟨some 157, some (154, false), .mov (.t 0)⟩,
      ⟨some 158, some (154, false), .idxA 1 (.t 157) (.c (.int .i64 1))⟩,
      ⟨some 159, some (154, false), .load 1 false (.t 158)⟩,
      ⟨some 160, some (154, false), .bin false .lss (.t 156) (.t 159)⟩,
      ⟨some 161, none, .pickb (.t 154) (.c (.bool true)) (.t 160)⟩,
      ⟨some 162, none, .mov (.t 161)⟩,
      ⟨some 163, some (162, false), .mov (.t 0)⟩,
      ⟨some 164, some (162, false), .idxA 1 (.t 163) (.c (.int .i64 2))⟩,
      ⟨some 165, some (162, false), .load 1 false (.t 164)⟩,
      ⟨some 166, some (162, false), .bin false .lss (.t 165) (.c (.int .u8 128))⟩,
      ⟨some 167, none, .pickb (.t 162) (.c (.bool true)) (.t 166)⟩,
      ⟨some 168, none, .mov (.t 167)⟩,
      ⟨some 169, some (168, false), .mov (.t 0)⟩,
      ⟨some 170, some (168, false), .idxA 1 (.t 169) (.c (.int .i64 2))⟩,
      ⟨some 171, some (168, false), .load 1 false (.t 170)⟩,
      ⟨some 172, some (168, false), .bin false .lss (.c (.int .u8 191)) (.t 171)⟩,
      ⟨some 173, none, .pickb (.t 168) (.c (.bool true)) (.t 172)⟩,
      ⟨some 174, none, .mov (.t 173)⟩,
      ⟨some 175, some (174, false), .mov (.t 0)⟩,
      ⟨some 176, some (174, false), .idxA 1 (.t 175) (.c (.int .i64 3))⟩,
      ⟨some 177, some (174, false), .load 1 false (.t 176)⟩,
      ⟨some 178, some (174, false), .bin false .lss (.t 177) (.c (.int .u8 128))⟩,
      ⟨some 179, none, .pickb (.t 174) (.c (.bool true)) (.t 178)⟩,
      ⟨some 180, none, .mov (.t 179)⟩,
      ⟨some 181, some (180, false), .mov (.t 0)⟩,
      ⟨some 182, some (180, false), .idxA 1 (.t 181) (.c (.int .i64 3))⟩,
      ⟨some 183, some (180, false), .load 1 false (.t 182)⟩,
      ⟨some 184, some (180, false), .bin false .lss (.c (.int .u8 191)) (.t 183)⟩,
      ⟨some 185, none, .pickb (.t 180) (.c (.bool true)) (.t 184)⟩])
    (.cond (.t 185) (.seq (.region [⟨some 2, none, .mov (.c (.bool false))⟩])
    .ret)
    .skip))
    (.region [⟨some 186, none, .mov (.t 0)⟩,
      ⟨some 187, none, .slc 1 (.t 186) (some (.c (.int .i64 4))) none none⟩,
      ⟨some 0, none, .mov (.t 187)⟩]))
    (.seq (.region [⟨some 2, none, .mov (.c (.bool false))⟩])
    .ret))))))))))))))))))
    (.seq (.region [⟨some 2, none, .mov (.c (.bool true))⟩])
    .ret)))), [.tmp 2]⟩
theorem T_utf8_Valid : trFn Tryz.prog [(14, [0, 0, 0, 0, 1, 0]), (1000008, [1, 5, 8]), (1000010, [1, 5, 8, 12, 15]), (1000018, [1, 5, 6, 13, 1000008, 1000015, 1000016]), (1000022, [1, 5, 6, 13, 21, 22, 27, 28, 1000008, 1000015, 1000016, 2000021, 2000022, 2000027, 2000028]), (1000026, [1, 5, 6, 13, 21, 22, 27, 28, 33, 34, 39, 40, 1000008, 1000015, 1000016, 2000021, 2000022, 2000027, 2000028, 2000033, 2000034, 2000039, 2000040])] Tryz.f298 = some A_utf8_Valid := by kernel_rfl
theorem L_utf8_Valid : 1 ≤ Tryz.f298.ntmps := by decide

-- NOT 299 internal/bytealg.Compare: IndexError('tuple index out of range')
/-! cmp.isNaN[int64] -/
def A_cmp_isNaN_int64 : AFn := ⟨(.seq (.region [⟨some 2, none, .mov (.c (.bool false))⟩])
    (.seq (.region [⟨some 3, none, .mov (.t 0)⟩,
      ⟨some 4, none, .mov (.t 0)⟩,
      ⟨some 5, none, .bin false .neq (.t 3) (.t 4)⟩,
      ⟨some 2, none, .mov (.t 5)⟩])
    .ret)), [.tmp 2]⟩
theorem T_cmp_isNaN_int64 : trFn Tryz.prog [] Tryz.f300 = some A_cmp_isNaN_int64 := by kernel_rfl
theorem L_cmp_isNaN_int64 : 1 ≤ Tryz.f300.ntmps := by decide

/-! cmp.isNaN[uint64] -/
def A_cmp_isNaN_uint64 : AFn := ⟨(.seq (.region [⟨some 2, none, .mov (.c (.bool false))⟩])
    (.seq (.region [⟨some 3, none, .mov (.t 0)⟩,
      ⟨some 4, none, .mov (.t 0)⟩,
      ⟨some 5, none, .bin false .neq (.t 3) (.t 4)⟩,
      ⟨some 2, none, .mov (.t 5)⟩])
    .ret)), [.tmp 2]⟩
theorem T_cmp_isNaN_uint64 : trFn Tryz.prog [] Tryz.f301 = some A_cmp_isNaN_uint64 := by kernel_rfl
theorem L_cmp_isNaN_uint64 : 1 ≤ Tryz.f301.ntmps := by decide

/-! slices.rotateLeft[cartouche/api.Val] -/
def A_slices_rotateLeft_api_Val : AFn := ⟨(.seq (.region [⟨some 4, none, .mov (.t 0)⟩,
      ⟨some 5, none, .mov (.t 1)⟩,
      ⟨some 6, none, .slc 3 (.t 4) none (some (.t 5)) none⟩,
      ⟨some 7, none, .call i_slices_Reverse_api_Val_api_Val [.t 6]⟩])
    (.seq (.region [⟨some 8, none, .mov (.t 0)⟩,
      ⟨some 9, none, .mov (.t 1)⟩,
      ⟨some 10, none, .slc 3 (.t 8) (some (.t 9)) none none⟩,
      ⟨some 11, none, .call i_slices_Reverse_api_Val_api_Val [.t 10]⟩])
    (.region [⟨some 12, none, .mov (.t 0)⟩,
      ⟨some 13, none, .call i_slices_Reverse_api_Val_api_Val [.t 12]⟩]))), []⟩
theorem T_slices_rotateLeft_api_Val : trFn Tryz.prog [] Tryz.f302 = some A_slices_rotateLeft_api_Val := by kernel_rfl
theorem L_slices_rotateLeft_api_Val : 2 ≤ Tryz.f302.ntmps := by decide

/-! cartouche/wire.ZagZig -/
def A_wire_ZagZig : AFn := ⟨(.seq (.region [⟨some 2, none, .mov (.c (.int .i64 0))⟩])
    (.seq (.region [⟨some 3, none, .mov (.t 0)⟩,
      ⟨some 4, none, .bin false .shr (.t 3) (.c (.int .u64 1))⟩,
      ⟨some 5, none, .conv .i64 (.t 4)⟩,
      ⟨some 6, none, .mov (.t 0)⟩,
      ⟨some 7, none, .bin false .and (.t 6) (.c (.int .u64 1))⟩,
      ⟨some 8, none, .conv .i64 (.t 7)⟩,
      ⟨some 9, none, .un .neg (.t 8)⟩,
      ⟨some 10, none, .bin false .xor (.t 5) (.t 9)⟩,
      ⟨some 2, none, .mov (.t 10)⟩])
    .ret)), [.tmp 2]⟩
theorem T_wire_ZagZig : trFn Tryz.prog [] Tryz.f303 = some A_wire_ZagZig := by kernel_rfl
theorem L_wire_ZagZig : 1 ≤ Tryz.f303.ntmps := by decide

/-! cartouche/lex.digit -/
def A_lex_digit : AFn := ⟨(.seq (.region [⟨some 2, none, .mov (.c (.bool false))⟩])
    (.seq (.region [⟨some 3, none, .mov (.t 0)⟩,
      ⟨some 4, none, .bin false .geq (.t 3) (.c (.int .u8 48))⟩,
      ⟨some 5, none, .mov (.t 4)⟩,
      ⟨some 6, some (5, true), .mov (.t 0)⟩,
      ⟨some 7, some (5, true), .bin false .leq (.t 6) (.c (.int .u8 57))⟩,
      ⟨some 8, none, .pickb (.t 5) (.t 7) (.c (.bool false))⟩,
      ⟨some 2, none, .mov (.t 8)⟩])
    .ret)), [.tmp 2]⟩
theorem T_lex_digit : trFn Tryz.prog [] Tryz.f307 = some A_lex_digit := by kernel_rfl
theorem L_lex_digit : 1 ≤ Tryz.f307.ntmps := by decide

/-! slices.Reverse[[]cartouche/api.Field,cartouche/api.Field] -/
def A_slices_Reverse_api_Field_api_Field : AFn := ⟨(.seq (.region [⟨some 4, none, .mov (.t 0)⟩,
      ⟨some 5, none, .len false (.t 4)⟩,
      ⟨some 6, none, .bin false .sub (.t 5) (.c (.int .i64 1))⟩,
      ⟨some 2, none, .mov (.c (.int .i64 0))⟩,
      ⟨some 3, none, .mov (.t 6)⟩])
    (.block 0 (.loop (.seq (.seq (.region [⟨some 7, none, .mov (.t 2)⟩,
      ⟨some 8, none, .mov (.t 3)⟩,
      ⟨some 9, none, .bin false .lss (.t 7) (.t 8)⟩])
    (.cond (.t 9) .skip
    (.exit 0)))
    (.seq (.block 1 (.draw [6, 7, 12, 13, 14, 15, 1000010, 1000011, 2000012, 2000013, 2000014, 2000015] [⟨some 14, none, .mov (.t 0)⟩,
      ⟨some 15, none, .mov (.t 2)⟩,
      ⟨some 16, none, .mov (.t 0)⟩,
      ⟨some 17, none, .mov (.t 3)⟩,
      ⟨some 18, none, .mov (.t 0)⟩,
      ⟨some 19, none, .mov (.t 3)⟩,
      ⟨some 20, none, .idxA 3 (.t 18) (.t 19)⟩,
      ⟨some 21, none, .load 3 true (.t 20)⟩,
      ⟨some 22, none, .mov (.t 0)⟩,
      ⟨some 23, none, .mov (.t 2)⟩,
      ⟨some 24, none, .idxA 3 (.t 22) (.t 23)⟩,
      ⟨some 25, none, .load 3 true (.t 24)⟩,
      ⟨some 26, none, .idxA 3 (.t 14) (.t 15)⟩,
      ⟨none, none, .store 3 (.t 26) (.t 21)⟩,
      ⟨some 27, none, .idxA 3 (.t 16) (.t 17)⟩,
      ⟨none, none, .store 3 (.t 27) (.t 25)⟩]))
    (.region [⟨some 10, none, .mov (.t 2)⟩,
      ⟨some 11, none, .bin false .add (.t 10) (.c (.int .i64 1))⟩,
      ⟨some 12, none, .mov (.t 3)⟩,
      ⟨some 13, none, .bin false .sub (.t 12) (.c (.int .i64 1))⟩,
      ⟨some 2, none, .mov (.t 11)⟩,
      ⟨some 3, none, .mov (.t 13)⟩])))))), []⟩
theorem T_slices_Reverse_api_Field_api_Field : trFn Tryz.prog [(1000003, [6, 7, 12, 13, 14, 15, 1000010, 1000011, 2000012, 2000013, 2000014, 2000015])] Tryz.f310 = some A_slices_Reverse_api_Field_api_Field := by kernel_rfl
theorem L_slices_Reverse_api_Field_api_Field : 1 ≤ Tryz.f310.ntmps := by decide

/-! unicode/utf8.word[[]byte] -/
def A_utf8_word_byte : AFn := ⟨(.seq (.region [⟨some 2, none, .mov (.c (.int .u64 0))⟩])
    (.seq (.cond (.c (.bool false)) (.seq (.draw [1, 2, 1000005, 1000006, 1000011, 1000012, 1000017, 1000018] [⟨some 3, none, .mov (.t 0)⟩,
      ⟨some 4, none, .idxA 1 (.t 3) (.c (.int .i64 0))⟩,
      ⟨some 5, none, .load 1 false (.t 4)⟩,
      ⟨some 6, none, .conv .u64 (.t 5)⟩,
      ⟨some 7, none, .mov (.t 0)⟩,
      ⟨some 8, none, .idxA 1 (.t 7) (.c (.int .i64 1))⟩,
      ⟨some 9, none, .load 1 false (.t 8)⟩,
      ⟨some 10, none, .conv .u64 (.t 9)⟩,
      ⟨some 11, none, .bin false .shl (.t 10) (.c (.int .u64 8))⟩,
      ⟨some 12, none, .bin false .or (.t 6) (.t 11)⟩,
      ⟨some 13, none, .mov (.t 0)⟩,
      ⟨some 14, none, .idxA 1 (.t 13) (.c (.int .i64 2))⟩,
      ⟨some 15, none, .load 1 false (.t 14)⟩,
      ⟨some 16, none, .conv .u64 (.t 15)⟩,
      ⟨some 17, none, .bin false .shl (.t 16) (.c (.int .u64 16))⟩,
      ⟨some 18, none, .bin false .or (.t 12) (.t 17)⟩,
      ⟨some 19, none, .mov (.t 0)⟩,
      ⟨some 20, none, .idxA 1 (.t 19) (.c (.int .i64 3))⟩,
      ⟨some 21, none, .load 1 false (.t 20)⟩,
      ⟨some 22, none, .conv .u64 (.t 21)⟩,
      ⟨some 23, none, .bin false .shl (.t 22) (.c (.int .u64 24))⟩,
      ⟨some 24, none, .bin false .or (.t 18) (.t 23)⟩,
      ⟨some 2, none, .mov (.t 24)⟩])
    .ret)
    .skip)
    (.seq (.draw [1, 2, 1000005, 1000006, 1000011, 1000012, 1000017, 1000018, 1000023, 1000024, 1000029, 1000030, 1000035, 1000036, 1000041, 1000042] [⟨some 25, none, .mov (.t 0)⟩,
      ⟨some 26, none, .idxA 1 (.t 25) (.c (.int .i64 0))⟩,
      ⟨some 27, none, .load 1 false (.t 26)⟩,
      ⟨some 28, none, .conv .u64 (.t 27)⟩,
      ⟨some 29, none, .mov (.t 0)⟩,
      ⟨some 30, none, .idxA 1 (.t 29) (.c (.int .i64 1))⟩,
      ⟨some 31, none, .load 1 false (.t 30)⟩,
      ⟨some 32, none, .conv .u64 (.t 31)⟩,
      ⟨some 33, none, .bin false .shl (.t 32) (.c (.int .u64 8))⟩,
      ⟨some 34, none, .bin false .or (.t 28) (.t 33)⟩,
      ⟨some 35, none, .mov (.t 0)⟩,
      ⟨some 36, none, .idxA 1 (.t 35) (.c (.int .i64 2))⟩,
      ⟨some 37, none, .load 1 false (.t 36)⟩,
      ⟨some 38, none, .conv .u64 (.t 37)⟩,
      ⟨some 39, none, .bin false .shl (.t 38) (.c (.int .u64 16))⟩,
      ⟨some 40, none, .bin false .or (.t 34) (.t 39)⟩,
      ⟨some 41, none, .mov (.t 0)⟩,
      ⟨some 42, none, .idxA 1 (.t 41) (.c (.int .i64 3))⟩,
      ⟨some 43, none, .load 1 false (.t 42)⟩,
      ⟨some 44, none, .conv .u64 (.t 43)⟩,
      ⟨some 45, none, .bin false .shl (.t 44) (.c (.int .u64 24))⟩,
      ⟨some 46, none, .bin false .or (.t 40) (.t 45)⟩,
      ⟨some 47, none, .mov (.t 0)⟩,
      ⟨some 48, none, .idxA 1 (.t 47) (.c (.int .i64 4))⟩,
      ⟨some 49, none, .load 1 false (.t 48)⟩,
      ⟨some 50, none, .conv .u64 (.t 49)⟩,
      ⟨some 51, none, .bin false .shl (.t 50) (.c (.int .u64 32))⟩,
      ⟨some 52, none, .bin false .or (.t 46) (.t 51)⟩,
      ⟨some 53, none, .mov (.t 0)⟩,
      ⟨some 54, none, .idxA 1 (.t 53) (.c (.int .i64 5))⟩,
      ⟨some 55, none, .load 1 false (.t 54)⟩,
      ⟨some 56, none, .conv .u64 (.t 55)⟩,
      ⟨some 57, none, .bin false .shl (.t 56) (.c (.int .u64 40))⟩,
      ⟨some 58, none, .bin false .or (.t 52) (.t 57)⟩,
      ⟨some 59, none, .mov (.t 0)⟩,
      ⟨some 60, none, .idxA 1 (.t 59) (.c (.int .i64 6))⟩,
      ⟨some 61, none, .load 1 false (.t 60)⟩,
      ⟨some 62, none, .conv .u64 (.t 61)⟩,
      ⟨some 63, none, .bin false .shl (.t 62) (.c (.int .u64 48))⟩,
      ⟨some 64, none, .bin false .or (.t 58) (.t 63)⟩,
      ⟨some 65, none, .mov (.t 0)⟩,
      ⟨some 66, none, .idxA 1 (.t 65) (.c (.int .i64 7))⟩,
      ⟨some 67, none, .load 1 false (.t 66)⟩,
      ⟨some 68, none, .conv .u64 (.t 67)⟩,
      ⟨some 69, none, .bin false .shl (.t 68) (.c (.int .u64 56))⟩,
      ⟨some 70, none, .bin false .or (.t 64) (.t 69)⟩,
      ⟨some 2, none, .mov (.t 70)⟩])
    .ret))), [.tmp 2]⟩
theorem T_utf8_word_byte : trFn Tryz.prog [(1000001, [1, 2, 1000005, 1000006, 1000011, 1000012, 1000017, 1000018]), (1000002, [1, 2, 1000005, 1000006, 1000011, 1000012, 1000017, 1000018, 1000023, 1000024, 1000029, 1000030, 1000035, 1000036, 1000041, 1000042])] Tryz.f326 = some A_utf8_word_byte := by kernel_rfl
theorem L_utf8_word_byte : 1 ≤ Tryz.f326.ntmps := by decide

/-! slices.Reverse[[]cartouche/api.Val,cartouche/api.Val] -/
def A_slices_Reverse_api_Val_api_Val : AFn := ⟨(.seq (.region [⟨some 4, none, .mov (.t 0)⟩,
      ⟨some 5, none, .len false (.t 4)⟩,
      ⟨some 6, none, .bin false .sub (.t 5) (.c (.int .i64 1))⟩,
      ⟨some 2, none, .mov (.c (.int .i64 0))⟩,
      ⟨some 3, none, .mov (.t 6)⟩])
    (.block 0 (.loop (.seq (.seq (.region [⟨some 7, none, .mov (.t 2)⟩,
      ⟨some 8, none, .mov (.t 3)⟩,
      ⟨some 9, none, .bin false .lss (.t 7) (.t 8)⟩])
    (.cond (.t 9) .skip
    (.exit 0)))
    (.seq (.block 1 (.draw [6, 7, 12, 13, 14, 15, 1000010, 1000011, 2000012, 2000013, 2000014, 2000015] [⟨some 14, none, .mov (.t 0)⟩,
      ⟨some 15, none, .mov (.t 2)⟩,
      ⟨some 16, none, .mov (.t 0)⟩,
      ⟨some 17, none, .mov (.t 3)⟩,
      ⟨some 18, none, .mov (.t 0)⟩,
      ⟨some 19, none, .mov (.t 3)⟩,
      ⟨some 20, none, .idxA 3 (.t 18) (.t 19)⟩,
      ⟨some 21, none, .load 3 true (.t 20)⟩,
      ⟨some 22, none, .mov (.t 0)⟩,
      ⟨some 23, none, .mov (.t 2)⟩,
      ⟨some 24, none, .idxA 3 (.t 22) (.t 23)⟩,
      ⟨some 25, none, .load 3 true (.t 24)⟩,
      ⟨some 26, none, .idxA 3 (.t 14) (.t 15)⟩,
      ⟨none, none, .store 3 (.t 26) (.t 21)⟩,
      ⟨some 27, none, .idxA 3 (.t 16) (.t 17)⟩,
      ⟨none, none, .store 3 (.t 27) (.t 25)⟩]))
    (.region [⟨some 10, none, .mov (.t 2)⟩,
      ⟨some 11, none, .bin false .add (.t 10) (.c (.int .i64 1))⟩,
      ⟨some 12, none, .mov (.t 3)⟩,
      ⟨some 13, none, .bin false .sub (.t 12) (.c (.int .i64 1))⟩,
      ⟨some 2, none, .mov (.t 11)⟩,
      ⟨some 3, none, .mov (.t 13)⟩])))))), []⟩
theorem T_slices_Reverse_api_Val_api_Val : trFn Tryz.prog [(1000003, [6, 7, 12, 13, 14, 15, 1000010, 1000011, 2000012, 2000013, 2000014, 2000015])] Tryz.f327 = some A_slices_Reverse_api_Val_api_Val := by kernel_rfl
theorem L_slices_Reverse_api_Val_api_Val : 1 ≤ Tryz.f327.ntmps := by decide

end Go.Proofs.YtdlgenppdgkacaaGreatDoor.Ag
