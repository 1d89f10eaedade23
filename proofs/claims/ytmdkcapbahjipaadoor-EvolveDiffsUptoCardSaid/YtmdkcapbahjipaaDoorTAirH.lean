/- Functions printed anew. -/
import Derived.Test.YtmdkcapbahjipaaDoorTAirE
set_option maxRecDepth 100000
namespace Go.Proofs.YtmdkcapbahjipaaDoor.Ag
def A_cartoucheref18_enum_r : AFn := ⟨(.seq (.region [⟨some 4, none, .boxI (.t 1)⟩, ⟨some 5, none, .boxI (.t 2)⟩, ⟨some 6, none, .mov (.c (.nil))⟩])
 (.seq (.seq (.region [⟨some 7, none, .mov (.c (.int .i64 0))⟩])
 (.block 0 (.loop (.seq (.seq (.region [⟨some 14, none, .mov (.t 7)⟩, ⟨some 15, none, .fldA 4 1 false (.t 4)⟩, ⟨some 16, none, .load 1 false (.t 15)⟩, ⟨some 17, none, .len false (.t 16)⟩, ⟨some 18, none, .bin false .lss (.t 14) (.t 17)⟩])
 (.cond (.t 18) .skip
 (.exit 0)))
 (.seq (.block 1 (.seq (.region [⟨some 21, none, .fldA 4 1 false (.t 4)⟩, ⟨some 22, none, .load 1 false (.t 21)⟩, ⟨some 23, none, .mov (.t 7)⟩, ⟨some 24, none, .idxA 2 (.t 22) (.t 23)⟩, ⟨some 25, none, .load 2 true (.t 24)⟩, ⟨some 8, none, .alloc 60 [.str ⟨#[]⟩, .int .i64 0]⟩, ⟨none, none, .store 2 (.t 8) (.t 25)⟩])
 (.seq (.region [⟨some 9, none, .mov (.c (.bool false))⟩])
 (.seq (.seq (.region [⟨some 10, none, .mov (.c (.int .i64 0))⟩])
 (.block 2 (.loop (.seq (.seq (.region [⟨some 26, none, .mov (.t 10)⟩, ⟨some 27, none, .fldA 4 1 false (.t 5)⟩, ⟨some 28, none, .load 1 false (.t 27)⟩, ⟨some 29, none, .len false (.t 28)⟩, ⟨some 30, none, .bin false .lss (.t 26) (.t 29)⟩])
 (.cond (.t 30) .skip
 (.exit 2)))
 (.seq (.block 3 (.seq (.draw [1000001, 1000003, 1000005, 1000007, 4000000, 4000060, 4000061] [⟨some 33, none, .fldA 4 1 false (.t 5)⟩, ⟨some 34, none, .load 1 false (.t 33)⟩, ⟨some 35, none, .mov (.t 10)⟩, ⟨some 36, none, .idxA 2 (.t 34) (.t 35)⟩, ⟨some 37, none, .fldA 1 1 false (.t 36)⟩, ⟨some 38, none, .load 1 false (.t 37)⟩, ⟨some 39, none, .fldA 1 1 false (.t 8)⟩, ⟨some 40, none, .load 1 false (.t 39)⟩, ⟨some 41, none, .bin false .eql (.t 38) (.t 40)⟩])
 (.cond (.t 41) (.seq (.region [⟨some 9, none, .mov (.c (.bool true))⟩])
 (.seq (.draw [1000001, 1000003, 1000005, 1000007, 4000000, 4000060, 4000061] [⟨some 42, none, .fldA 4 1 false (.t 5)⟩, ⟨some 43, none, .load 1 false (.t 42)⟩, ⟨some 44, none, .mov (.t 10)⟩, ⟨some 45, none, .idxA 2 (.t 43) (.t 44)⟩, ⟨some 46, none, .fldA 0 1 false (.t 45)⟩, ⟨some 47, none, .load 1 false (.t 46)⟩, ⟨some 48, none, .fldA 0 1 false (.t 8)⟩, ⟨some 49, none, .load 1 false (.t 48)⟩, ⟨some 50, none, .bin false .neq (.t 47) (.t 49)⟩])
 (.cond (.t 50) (.region [⟨some 51, none, .mov (.t 0)⟩, ⟨some 52, none, .fldA 0 1 false (.t 4)⟩, ⟨some 53, none, .load 1 false (.t 52)⟩, ⟨some 54, none, .fldA 1 1 false (.t 8)⟩, ⟨some 55, none, .load 1 false (.t 54)⟩, ⟨some 56, none, .build [.int .i64 0, .int .i64 0, .str ⟨#[]⟩, .int .i64 0] [(0, 1, .c (.int .i64 3)), (1, 1, .c (.int .i64 7)), (2, 1, .t 53), (3, 1, .t 55)]⟩, ⟨some 57, none, .bslice 4 [.t 56]⟩, ⟨some 58, none, .app 61 101 4 40 (.t 51) (.t 57)⟩, ⟨some 0, none, .mov (.t 58)⟩])
    .skip)))
    .skip)))
 (.region [⟨some 31, none, .mov (.t 10)⟩, ⟨some 32, none, .bin false .add (.t 31) (.c (.int .i64 1))⟩, ⟨some 10, none, .mov (.t 32)⟩]))))))
 (.seq (.region [⟨some 59, none, .mov (.t 9)⟩, ⟨some 60, none, .un .not (.t 59)⟩])
 (.cond (.t 60) (.region [⟨some 61, none, .mov (.t 0)⟩, ⟨some 62, none, .fldA 0 1 false (.t 4)⟩, ⟨some 63, none, .load 1 false (.t 62)⟩, ⟨some 64, none, .fldA 1 1 false (.t 8)⟩, ⟨some 65, none, .load 1 false (.t 64)⟩, ⟨some 66, none, .build [.int .i64 0, .int .i64 0, .str ⟨#[]⟩, .int .i64 0] [(0, 1, .c (.int .i64 4)), (1, 1, .c (.int .i64 3)), (2, 1, .t 63), (3, 1, .t 65)]⟩, ⟨some 67, none, .bslice 4 [.t 66]⟩, ⟨some 68, none, .app 61 101 4 40 (.t 61) (.t 67)⟩, ⟨some 0, none, .mov (.t 68)⟩])
    .skip))))))
 (.region [⟨some 19, none, .mov (.t 7)⟩, ⟨some 20, none, .bin false .add (.t 19) (.c (.int .i64 1))⟩, ⟨some 7, none, .mov (.t 20)⟩]))))))
 (.seq (.seq (.region [⟨some 11, none, .mov (.c (.int .i64 0))⟩])
 (.block 4 (.loop (.seq (.seq (.region [⟨some 69, none, .mov (.t 11)⟩, ⟨some 70, none, .fldA 4 1 false (.t 5)⟩, ⟨some 71, none, .load 1 false (.t 70)⟩, ⟨some 72, none, .len false (.t 71)⟩, ⟨some 73, none, .bin false .lss (.t 69) (.t 72)⟩])
 (.cond (.t 73) .skip
 (.exit 4)))
 (.seq (.block 5 (.seq (.region [⟨some 12, none, .mov (.c (.bool false))⟩])
 (.seq (.seq (.region [⟨some 13, none, .mov (.c (.int .i64 0))⟩])
 (.block 6 (.loop (.seq (.seq (.region [⟨some 76, none, .mov (.t 13)⟩, ⟨some 77, none, .fldA 4 1 false (.t 4)⟩, ⟨some 78, none, .load 1 false (.t 77)⟩, ⟨some 79, none, .len false (.t 78)⟩, ⟨some 80, none, .bin false .lss (.t 76) (.t 79)⟩])
 (.cond (.t 80) .skip
 (.exit 6)))
 (.seq (.block 7 (.draw [1000003, 1000005, 1000007, 1000009, 1000011, 1000013, 4000000, 4000060, 4000061] [⟨some 83, none, .mov (.t 12)⟩, ⟨some 84, none, .mov (.t 83)⟩, ⟨some 85, some (84, false), .fldA 4 1 false (.t 4)⟩, ⟨some 86, some (84, false), .load 1 false (.t 85)⟩, ⟨some 87, some (84, false), .mov (.t 13)⟩, ⟨some 88, some (84, false), .idxA 2 (.t 86) (.t 87)⟩, ⟨some 89, some (84, false), .fldA 1 1 false (.t 88)⟩, ⟨some 90, some (84, false), .load 1 false (.t 89)⟩, ⟨some 91, some (84, false), .fldA 4 1 false (.t 5)⟩, ⟨some 92, some (84, false), .load 1 false (.t 91)⟩, ⟨some 93, some (84, false), .mov (.t 11)⟩, ⟨some 94, some (84, false), .idxA 2 (.t 92) (.t 93)⟩, ⟨some 95, some (84, false), .fldA 1 1 false (.t 94)⟩, ⟨some 96, some (84, false), .load 1 false (.t 95)⟩, ⟨some 97, some (84, false), .bin false .eql (.t 90) (.t 96)⟩, ⟨some 98, none, .pickb (.t 84) (.c (.bool true)) (.t 97)⟩, ⟨some 12, none, .mov (.t 98)⟩]))
 (.region [⟨some 81, none, .mov (.t 13)⟩, ⟨some 82, none, .bin false .add (.t 81) (.c (.int .i64 1))⟩, ⟨some 13, none, .mov (.t 82)⟩]))))))
 (.seq (.region [⟨some 99, none, .mov (.t 12)⟩, ⟨some 100, none, .un .not (.t 99)⟩])
 (.cond (.t 100) (.draw [11, 1000002, 1000004, 1000006, 1000008, 2000011, 4000060, 4000061] [⟨some 101, none, .mov (.t 0)⟩, ⟨some 102, none, .fldA 0 1 false (.t 4)⟩, ⟨some 103, none, .load 1 false (.t 102)⟩, ⟨some 104, none, .fldA 4 1 false (.t 5)⟩, ⟨some 105, none, .load 1 false (.t 104)⟩, ⟨some 106, none, .mov (.t 11)⟩, ⟨some 107, none, .idxA 2 (.t 105) (.t 106)⟩, ⟨some 108, none, .fldA 1 1 false (.t 107)⟩, ⟨some 109, none, .load 1 false (.t 108)⟩, ⟨some 110, none, .build [.int .i64 0, .int .i64 0, .str ⟨#[]⟩, .int .i64 0] [(0, 1, .c (.int .i64 3)), (1, 1, .c (.int .i64 4)), (2, 1, .t 103), (3, 1, .t 109)]⟩, ⟨some 111, none, .bslice 4 [.t 110]⟩, ⟨some 112, none, .app 61 101 4 40 (.t 101) (.t 111)⟩, ⟨some 0, none, .mov (.t 112)⟩])
    .skip)))))
 (.region [⟨some 74, none, .mov (.t 11)⟩, ⟨some 75, none, .bin false .add (.t 74) (.c (.int .i64 1))⟩, ⟨some 11, none, .mov (.t 75)⟩]))))))
 (.seq (.region [⟨some 113, none, .mov (.t 0)⟩, ⟨some 6, none, .mov (.t 113)⟩])
    .ret)))), [.tmp 6]⟩
theorem T_cartoucheref18_enum_r : trFn Tryd.prog [(4, [0, 0, 0, 0, 0, 61, 0]), (12, [0, 0, 0, 0, 0, 0, 0, 61, 0]), (14, [0, 0, 0, 0, 0, 0, 0, 61, 0]), (24, [0, 0, 0, 0, 0, 0, 0, 0, 0, 0, 0, 61, 0]), (1000009, [1000001, 1000003, 1000005, 1000007, 4000000, 4000060, 4000061]), (1000011, [1000001, 1000003, 1000005, 1000007, 4000000, 4000060, 4000061]), (1000022, [1000003, 1000005, 1000007, 1000009, 1000011, 1000013, 4000000, 4000060, 4000061]), (1000024, [11, 1000002, 1000004, 1000006, 1000008, 2000011, 4000060, 4000061])] Tryd.f58 = some A_cartoucheref18_enum_r := by kernel_rfl
theorem L_cartoucheref18_enum_r : 3 ≤ Tryd.f58.ntmps := by decide
theorem F_cartoucheref18_enum_r : Tryd.prog.funcs[i_cartoucheref18_enum]? = some Tryd.f58 := F_cartoucheref18_enum
def A_cartoucheref18_message_r : AFn := ⟨(.seq (.region [⟨some 6, none, .boxI (.t 1)⟩, ⟨some 7, none, .boxI (.t 2)⟩, ⟨some 8, none, .boxI (.t 3)⟩, ⟨some 9, none, .boxI (.t 4)⟩, ⟨some 10, none, .mov (.c (.nil))⟩])
 (.seq (.seq (.region [⟨some 11, none, .mov (.c (.int .i64 0))⟩])
 (.block 0 (.loop (.seq (.seq (.region [⟨some 17, none, .mov (.t 11)⟩, ⟨some 18, none, .fldA 2 1 false (.t 8)⟩, ⟨some 19, none, .load 1 false (.t 18)⟩, ⟨some 20, none, .len false (.t 19)⟩, ⟨some 21, none, .bin false .lss (.t 17) (.t 20)⟩])
 (.cond (.t 21) .skip
 (.exit 0)))
 (.seq (.block 1 (.seq (.region [⟨some 24, none, .fldA 2 1 false (.t 8)⟩, ⟨some 25, none, .load 1 false (.t 24)⟩, ⟨some 26, none, .mov (.t 11)⟩, ⟨some 27, none, .idxA 7 (.t 25) (.t 26)⟩, ⟨some 28, none, .load 7 true (.t 27)⟩, ⟨some 12, none, .alloc 64 [.str ⟨#[]⟩, .int .i64 0, .int .i64 0, .int .i64 0, .int .i64 0, .int .i64 0, .int .i64 0]⟩, ⟨none, none, .store 7 (.t 12) (.t 28)⟩])
 (.seq (.region [⟨some 13, none, .mov (.c (.bool false))⟩])
 (.seq (.seq (.region [⟨some 14, none, .mov (.c (.int .i64 0))⟩])
 (.block 2 (.loop (.seq (.seq (.region [⟨some 29, none, .mov (.t 14)⟩, ⟨some 30, none, .fldA 2 1 false (.t 9)⟩, ⟨some 31, none, .load 1 false (.t 30)⟩, ⟨some 32, none, .len false (.t 31)⟩, ⟨some 33, none, .bin false .lss (.t 29) (.t 32)⟩])
 (.cond (.t 33) .skip
 (.exit 2)))
 (.seq (.block 3 (.seq (.draw [1000001, 1000003, 1000005, 1000007, 4000000, 4000064, 4000065] [⟨some 36, none, .fldA 2 1 false (.t 9)⟩, ⟨some 37, none, .load 1 false (.t 36)⟩, ⟨some 38, none, .mov (.t 14)⟩, ⟨some 39, none, .idxA 7 (.t 37) (.t 38)⟩, ⟨some 40, none, .fldA 1 1 false (.t 39)⟩, ⟨some 41, none, .load 1 false (.t 40)⟩, ⟨some 42, none, .fldA 1 1 false (.t 12)⟩, ⟨some 43, none, .load 1 false (.t 42)⟩, ⟨some 44, none, .bin false .eql (.t 41) (.t 43)⟩])
 (.cond (.t 44) (.seq (.region [⟨some 13, none, .mov (.c (.bool true))⟩])
 (.draw [11, 1000001, 1000002, 1000003, 1000004, 1000005, 1000007, 1000009, 1000010, 2000011, 4000064, 4000065] [⟨some 45, none, .mov (.t 0)⟩, ⟨some 46, none, .load 1 true (.t 6)⟩, ⟨some 47, none, .load 1 true (.t 7)⟩, ⟨some 48, none, .load 6 true (.t 8)⟩, ⟨some 49, none, .load 6 true (.t 9)⟩, ⟨some 50, none, .load 7 true (.t 12)⟩, ⟨some 51, none, .fldA 2 1 false (.t 9)⟩, ⟨some 52, none, .load 1 false (.t 51)⟩, ⟨some 53, none, .mov (.t 14)⟩, ⟨some 54, none, .idxA 7 (.t 52) (.t 53)⟩, ⟨some 55, none, .load 7 true (.t 54)⟩, ⟨some 56, none, .call i_cartoucheref18_field [.t 45, .t 46, .t 47, .t 48, .t 49, .t 50, .t 55]⟩, ⟨some 0, none, .mov (.t 56)⟩]))
    .skip)))
 (.region [⟨some 34, none, .mov (.t 14)⟩, ⟨some 35, none, .bin false .add (.t 34) (.c (.int .i64 1))⟩, ⟨some 14, none, .mov (.t 35)⟩]))))))
 (.seq (.region [⟨some 57, none, .mov (.t 13)⟩, ⟨some 58, none, .un .not (.t 57)⟩])
 (.cond (.t 58) (.region [⟨some 59, none, .mov (.t 0)⟩, ⟨some 60, none, .fldA 0 1 false (.t 8)⟩, ⟨some 61, none, .load 1 false (.t 60)⟩, ⟨some 62, none, .fldA 1 1 false (.t 12)⟩, ⟨some 63, none, .load 1 false (.t 62)⟩, ⟨some 64, none, .build [.int .i64 0, .int .i64 0, .str ⟨#[]⟩, .int .i64 0] [(0, 1, .c (.int .i64 4)), (1, 1, .c (.int .i64 5)), (2, 1, .t 61), (3, 1, .t 63)]⟩, ⟨some 65, none, .bslice 4 [.t 64]⟩, ⟨some 66, none, .app 65 101 4 40 (.t 59) (.t 65)⟩, ⟨some 0, none, .mov (.t 66)⟩])
    .skip))))))
 (.region [⟨some 22, none, .mov (.t 11)⟩, ⟨some 23, none, .bin false .add (.t 22) (.c (.int .i64 1))⟩, ⟨some 11, none, .mov (.t 23)⟩]))))))
 (.seq (.region [⟨some 67, none, .load 6 true (.t 8)⟩, ⟨some 68, none, .load 6 true (.t 9)⟩, ⟨some 69, none, .call i_cartoucheref18_fresh [.t 67, .t 68]⟩, ⟨some 15, none, .mov (.t 69)⟩])
 (.seq (.seq (.region [⟨some 16, none, .mov (.c (.int .i64 0))⟩])
 (.block 4 (.loop (.seq (.seq (.region [⟨some 70, none, .mov (.t 16)⟩, ⟨some 71, none, .mov (.t 15)⟩, ⟨some 72, none, .len false (.t 71)⟩, ⟨some 73, none, .bin false .lss (.t 70) (.t 72)⟩])
 (.cond (.t 73) .skip
 (.exit 4)))
 (.seq (.block 5 (.draw [9, 1000002, 1000005, 1000006, 2000009, 4000064, 4000065] [⟨some 76, none, .mov (.t 0)⟩, ⟨some 77, none, .fldA 0 1 false (.t 8)⟩, ⟨some 78, none, .load 1 false (.t 77)⟩, ⟨some 79, none, .mov (.t 15)⟩, ⟨some 80, none, .mov (.t 16)⟩, ⟨some 81, none, .idxA 1 (.t 79) (.t 80)⟩, ⟨some 82, none, .load 1 false (.t 81)⟩, ⟨some 83, none, .build [.int .i64 0, .int .i64 0, .str ⟨#[]⟩, .int .i64 0] [(0, 1, .c (.int .i64 2)), (1, 1, .c (.int .i64 6)), (2, 1, .t 78), (3, 1, .t 82)]⟩, ⟨some 84, none, .bslice 4 [.t 83]⟩, ⟨some 85, none, .app 65 101 4 40 (.t 76) (.t 84)⟩, ⟨some 0, none, .mov (.t 85)⟩]))
 (.region [⟨some 74, none, .mov (.t 16)⟩, ⟨some 75, none, .bin false .add (.t 74) (.c (.int .i64 1))⟩, ⟨some 16, none, .mov (.t 75)⟩]))))))
 (.seq (.seq (.region [⟨some 86, none, .fldA 5 1 false (.t 8)⟩, ⟨some 87, none, .load 1 false (.t 86)⟩, ⟨some 88, none, .fldA 5 1 false (.t 9)⟩, ⟨some 89, none, .load 1 false (.t 88)⟩, ⟨some 90, none, .call i_cartoucheref18_within [.t 87, .t 89]⟩, ⟨some 91, none, .un .not (.t 90)⟩])
 (.cond (.t 91) (.seq (.region [⟨some 92, none, .mov (.t 0)⟩, ⟨some 93, none, .fldA 0 1 false (.t 8)⟩, ⟨some 94, none, .load 1 false (.t 93)⟩, ⟨some 95, none, .build [.int .i64 0, .int .i64 0, .str ⟨#[]⟩, .int .i64 0] [(0, 1, .c (.int .i64 4)), (1, 1, .c (.int .i64 10)), (2, 1, .t 94), (3, 1, .c (.int .i64 0))]⟩, ⟨some 96, none, .bslice 4 [.t 95]⟩, ⟨some 97, none, .app 65 101 4 40 (.t 92) (.t 96)⟩, ⟨some 10, none, .mov (.t 97)⟩])
    .ret)
    .skip))
 (.seq (.seq (.region [⟨some 98, none, .fldA 5 1 false (.t 9)⟩, ⟨some 99, none, .load 1 false (.t 98)⟩, ⟨some 100, none, .fldA 5 1 false (.t 8)⟩, ⟨some 101, none, .load 1 false (.t 100)⟩, ⟨some 102, none, .call i_cartoucheref18_within [.t 99, .t 101]⟩, ⟨some 103, none, .un .not (.t 102)⟩])
 (.cond (.t 103) (.seq (.region [⟨some 104, none, .mov (.t 0)⟩, ⟨some 105, none, .fldA 0 1 false (.t 8)⟩, ⟨some 106, none, .load 1 false (.t 105)⟩, ⟨some 107, none, .build [.int .i64 0, .int .i64 0, .str ⟨#[]⟩, .int .i64 0] [(0, 1, .c (.int .i64 3)), (1, 1, .c (.int .i64 10)), (2, 1, .t 106), (3, 1, .c (.int .i64 0))]⟩, ⟨some 108, none, .bslice 4 [.t 107]⟩, ⟨some 109, none, .app 65 101 4 40 (.t 104) (.t 108)⟩, ⟨some 10, none, .mov (.t 109)⟩])
    .ret)
    .skip))
 (.seq (.region [⟨some 110, none, .mov (.t 0)⟩, ⟨some 10, none, .mov (.t 110)⟩])
    .ret))))))), [.tmp 10]⟩
theorem T_cartoucheref18_message_r : trFn Tryd.prog [(4, [0, 0, 0, 0, 0, 65, 0]), (13, [0, 0, 0, 0, 0, 0, 0, 65, 0]), (18, [0, 0, 0, 0, 0, 0, 0, 0, 0, 65, 0]), (20, [0, 0, 0, 0, 0, 65, 0]), (22, [0, 0, 0, 0, 0, 65, 0]), (1000009, [1000001, 1000003, 1000005, 1000007, 4000000, 4000064, 4000065]), (1000011, [11, 1000001, 1000002, 1000003, 1000004, 1000005, 1000007, 1000009, 1000010, 2000011, 4000064, 4000065]), (1000018, [9, 1000002, 1000005, 1000006, 2000009, 4000064, 4000065])] Tryd.f59 = some A_cartoucheref18_message_r := by kernel_rfl
theorem L_cartoucheref18_message_r : 5 ≤ Tryd.f59.ntmps := by decide
theorem F_cartoucheref18_message_r : Tryd.prog.funcs[i_cartoucheref18_message]? = some Tryd.f59 := F_cartoucheref18_message
def A_cartoucheref18_Diff_r : AFn := ⟨(.seq (.region [⟨some 2, none, .boxI (.t 0)⟩, ⟨some 3, none, .boxI (.t 1)⟩, ⟨some 4, none, .mov (.c (.nil))⟩, ⟨some 5, none, .mov (.c (.int .i64 0))⟩])
 (.seq (.region [⟨some 6, none, .mov (.c (.nil))⟩])
 (.seq (.seq (.region [⟨some 7, none, .mov (.c (.int .i64 0))⟩])
 (.block 0 (.loop (.seq (.seq (.region [⟨some 14, none, .mov (.t 7)⟩, ⟨some 15, none, .fldA 0 1 false (.t 2)⟩, ⟨some 16, none, .load 1 false (.t 15)⟩, ⟨some 17, none, .len false (.t 16)⟩, ⟨some 18, none, .bin false .lss (.t 14) (.t 17)⟩])
 (.cond (.t 18) .skip
 (.exit 0)))
 (.seq (.block 1 (.seq (.region [⟨some 21, none, .fldA 0 1 false (.t 2)⟩, ⟨some 22, none, .load 1 false (.t 21)⟩, ⟨some 23, none, .mov (.t 7)⟩, ⟨some 24, none, .idxA 6 (.t 22) (.t 23)⟩, ⟨some 25, none, .load 6 true (.t 24)⟩, ⟨some 8, none, .alloc 0 [.str ⟨#[]⟩, .bool false, .nil, .nil, .nil, .nil]⟩, ⟨none, none, .store 6 (.t 8) (.t 25)⟩])
 (.seq (.region [⟨some 26, none, .load 1 true (.t 3)⟩, ⟨some 27, none, .fldA 0 1 false (.t 8)⟩, ⟨some 28, none, .load 1 false (.t 27)⟩, ⟨some 29, none, .call i_cartoucheref7_Find [.t 26, .t 28]⟩, ⟨some 9, none, .mov (.t 29)⟩])
 (.seq (.seq (.region [⟨some 30, none, .mov (.t 9)⟩, ⟨some 31, none, .bin false .lss (.t 30) (.c (.int .i64 0))⟩])
 (.cond (.t 31) (.seq (.region [⟨some 32, none, .mov (.t 6)⟩, ⟨some 33, none, .fldA 0 1 false (.t 8)⟩, ⟨some 34, none, .load 1 false (.t 33)⟩, ⟨some 35, none, .build [.int .i64 0, .int .i64 0, .str ⟨#[]⟩, .int .i64 0] [(0, 1, .c (.int .i64 4)), (1, 1, .c (.int .i64 1)), (2, 1, .t 34), (3, 1, .c (.int .i64 0))]⟩, ⟨some 36, none, .bslice 4 [.t 35]⟩, ⟨some 37, none, .app 1 101 4 40 (.t 32) (.t 36)⟩, ⟨some 6, none, .mov (.t 37)⟩])
 (.exit 1))
    .skip))
 (.seq (.region [⟨some 38, none, .fldA 0 1 false (.t 3)⟩, ⟨some 39, none, .load 1 false (.t 38)⟩, ⟨some 40, none, .mov (.t 9)⟩, ⟨some 41, none, .idxA 6 (.t 39) (.t 40)⟩, ⟨some 42, none, .load 6 true (.t 41)⟩, ⟨some 10, none, .alloc 2 [.str ⟨#[]⟩, .bool false, .nil, .nil, .nil, .nil]⟩, ⟨none, none, .store 6 (.t 10) (.t 42)⟩])
 (.block 2 (.seq (.region [⟨some 50, none, .fldA 1 1 false (.t 8)⟩, ⟨some 51, none, .load 1 false (.t 50)⟩, ⟨some 52, none, .fldA 1 1 false (.t 10)⟩, ⟨some 53, none, .load 1 false (.t 52)⟩, ⟨some 54, none, .bin true .neq (.t 51) (.t 53)⟩, ⟨some 49, none, .mov (.t 54)⟩])
 (.cond (.t 49) (.region [⟨some 55, none, .mov (.t 6)⟩, ⟨some 56, none, .fldA 0 1 false (.t 8)⟩, ⟨some 57, none, .load 1 false (.t 56)⟩, ⟨some 58, none, .build [.int .i64 0, .int .i64 0, .str ⟨#[]⟩, .int .i64 0] [(0, 1, .c (.int .i64 4)), (1, 1, .c (.int .i64 2)), (2, 1, .t 57), (3, 1, .c (.int .i64 0))]⟩, ⟨some 59, none, .bslice 4 [.t 58]⟩, ⟨some 60, none, .app 1 101 4 40 (.t 55) (.t 59)⟩, ⟨some 6, none, .mov (.t 60)⟩])
 (.seq (.region [⟨some 62, none, .fldA 1 1 false (.t 8)⟩, ⟨some 63, none, .load 1 false (.t 62)⟩, ⟨some 61, none, .mov (.t 63)⟩])
 (.cond (.t 61) (.region [⟨some 64, none, .mov (.t 6)⟩, ⟨some 65, none, .load 6 true (.t 8)⟩, ⟨some 66, none, .load 6 true (.t 10)⟩, ⟨some 67, none, .call i_cartoucheref18_enum [.t 64, .t 65, .t 66]⟩, ⟨some 6, none, .mov (.t 67)⟩])
 (.region [⟨some 43, none, .mov (.t 6)⟩, ⟨some 44, none, .load 1 true (.t 2)⟩, ⟨some 45, none, .load 1 true (.t 3)⟩, ⟨some 46, none, .load 6 true (.t 8)⟩, ⟨some 47, none, .load 6 true (.t 10)⟩, ⟨some 48, none, .call i_cartoucheref18_message [.t 43, .t 44, .t 45, .t 46, .t 47]⟩, ⟨some 6, none, .mov (.t 48)⟩])))))))))))
 (.region [⟨some 19, none, .mov (.t 7)⟩, ⟨some 20, none, .bin false .add (.t 19) (.c (.int .i64 1))⟩, ⟨some 7, none, .mov (.t 20)⟩]))))))
 (.seq (.seq (.region [⟨some 11, none, .mov (.c (.int .i64 0))⟩])
 (.block 3 (.loop (.seq (.seq (.region [⟨some 68, none, .mov (.t 11)⟩, ⟨some 69, none, .fldA 0 1 false (.t 3)⟩, ⟨some 70, none, .load 1 false (.t 69)⟩, ⟨some 71, none, .len false (.t 70)⟩, ⟨some 72, none, .bin false .lss (.t 68) (.t 71)⟩])
 (.cond (.t 72) .skip
 (.exit 3)))
 (.seq (.block 4 (.seq (.draw [1000000, 1000002, 1000004, 1000006, 4000000, 4000001, 4000002] [⟨some 75, none, .load 1 true (.t 2)⟩, ⟨some 76, none, .fldA 0 1 false (.t 3)⟩, ⟨some 77, none, .load 1 false (.t 76)⟩, ⟨some 78, none, .mov (.t 11)⟩, ⟨some 79, none, .idxA 6 (.t 77) (.t 78)⟩, ⟨some 80, none, .fldA 0 1 false (.t 79)⟩, ⟨some 81, none, .load 1 false (.t 80)⟩, ⟨some 82, none, .call i_cartoucheref7_Find [.t 75, .t 81]⟩, ⟨some 83, none, .bin false .lss (.t 82) (.c (.int .i64 0))⟩])
 (.cond (.t 83) (.region [⟨some 84, none, .mov (.t 6)⟩, ⟨some 85, none, .fldA 0 1 false (.t 3)⟩, ⟨some 86, none, .load 1 false (.t 85)⟩, ⟨some 87, none, .mov (.t 11)⟩, ⟨some 88, none, .idxA 6 (.t 86) (.t 87)⟩, ⟨some 89, none, .fldA 0 1 false (.t 88)⟩, ⟨some 90, none, .load 1 false (.t 89)⟩, ⟨some 91, none, .build [.int .i64 0, .int .i64 0, .str ⟨#[]⟩, .int .i64 0] [(0, 1, .c (.int .i64 2)), (1, 1, .c (.int .i64 11)), (2, 1, .t 90), (3, 1, .c (.int .i64 0))]⟩, ⟨some 92, none, .bslice 4 [.t 91]⟩, ⟨some 93, none, .app 1 101 4 40 (.t 84) (.t 92)⟩, ⟨some 6, none, .mov (.t 93)⟩])
    .skip)))
 (.region [⟨some 73, none, .mov (.t 11)⟩, ⟨some 74, none, .bin false .add (.t 73) (.c (.int .i64 1))⟩, ⟨some 11, none, .mov (.t 74)⟩]))))))
 (.seq (.region [⟨some 12, none, .mov (.c (.int .i64 1))⟩])
 (.seq (.seq (.region [⟨some 13, none, .mov (.c (.int .i64 0))⟩])
 (.block 5 (.loop (.seq (.seq (.region [⟨some 94, none, .mov (.t 13)⟩, ⟨some 95, none, .mov (.t 6)⟩, ⟨some 96, none, .len false (.t 95)⟩, ⟨some 97, none, .bin false .lss (.t 94) (.t 96)⟩])
 (.cond (.t 97) .skip
 (.exit 5)))
 (.seq (.block 6 (.region [⟨some 100, none, .mov (.t 12)⟩, ⟨some 101, none, .mov (.t 6)⟩, ⟨some 102, none, .mov (.t 13)⟩, ⟨some 103, none, .idxA 4 (.t 101) (.t 102)⟩, ⟨some 104, none, .fldA 0 1 false (.t 103)⟩, ⟨some 105, none, .load 1 false (.t 104)⟩, ⟨some 106, none, .mm true (.t 100) (.t 105)⟩, ⟨some 12, none, .mov (.t 106)⟩]))
 (.region [⟨some 98, none, .mov (.t 13)⟩, ⟨some 99, none, .bin false .add (.t 98) (.c (.int .i64 1))⟩, ⟨some 13, none, .mov (.t 99)⟩]))))))
 (.seq (.region [⟨some 107, none, .mov (.t 6)⟩, ⟨some 108, none, .mov (.t 12)⟩, ⟨some 4, none, .mov (.t 107)⟩, ⟨some 5, none, .mov (.t 108)⟩])
    .ret))))))), [.tmp 4, .tmp 5]⟩
theorem T_cartoucheref18_Diff_r : trFn Tryd.prog [(5, [0, 0, 0, 0, 0, 1, 0]), (8, [0, 0, 0, 0, 0, 1, 0]), (9, [0, 0, 0, 0, 0, 3, 0]), (12, [0, 0, 0, 0, 0, 1, 0]), (19, [0, 0, 0, 0, 0, 0, 0, 0, 0, 1, 0]), (1000018, [1000000, 1000002, 1000004, 1000006, 4000000, 4000001, 4000002])] Tryd.f30 = some A_cartoucheref18_Diff_r := by kernel_rfl
theorem L_cartoucheref18_Diff_r : 2 ≤ Tryd.f30.ntmps := by decide
theorem F_cartoucheref18_Diff_r : Tryd.prog.funcs[i_cartoucheref18_Diff]? = some Tryd.f30 := F_cartoucheref18_Diff
end Go.Proofs.YtmdkcapbahjipaaDoor.Ag
