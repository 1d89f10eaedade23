/- The laws of the frames as the walk has them. -/
import Derived.Test.YtinoaofgbkdohaaZAir
namespace Go.Proofs.Ytinoaofgbkdohaa.Ag
set_option maxRecDepth 100000
abbrev i_cartouchelaw23_FrameStreams : FuncId := 3
theorem F_cartouchelaw23_FrameStreams : Try.prog.funcs[i_cartouchelaw23_FrameStreams]? = some Try.f3 := Try.func3
abbrev i_cartouchelaw23_FrameBack : FuncId := 4
theorem F_cartouchelaw23_FrameBack : Try.prog.funcs[i_cartouchelaw23_FrameBack]? = some Try.f4 := Try.func4
abbrev i_cartouchelaw23_FrameAdds : FuncId := 5
theorem F_cartouchelaw23_FrameAdds : Try.prog.funcs[i_cartouchelaw23_FrameAdds]? = some Try.f5 := Try.func5

def A_cartouchelaw23_FrameStreams : AFn := ⟨(.seq (.region [⟨some 4, none, .mov (.c (.bool false))⟩])
    (.seq (.region [⟨some 18, none, .mov (.t 0)⟩,
      ⟨some 19, none, .call i_frame_Write [.t 18]⟩,
      ⟨some 17, none, .mov (.t 19)⟩,
      ⟨some 20, none, .ext 0 (.t 17)⟩,
      ⟨some 21, none, .ext 1 (.t 17)⟩,
      ⟨some 5, none, .mov (.t 20)⟩,
      ⟨some 6, none, .mov (.t 21)⟩])
    (.seq (.region [⟨some 23, none, .mov (.t 1)⟩,
      ⟨some 24, none, .call i_frame_Read [.t 23]⟩,
      ⟨some 22, none, .mov (.t 24)⟩,
      ⟨some 25, none, .ext 0 (.t 22)⟩,
      ⟨some 26, none, .ext 1 (.t 22)⟩,
      ⟨some 7, none, .mov (.t 25)⟩,
      ⟨some 8, none, .mov (.t 26)⟩])
    (.seq (.region [⟨some 28, none, .mov (.t 1)⟩,
      ⟨some 29, none, .call i_frame_Salvage [.t 28]⟩,
      ⟨some 27, none, .mov (.t 29)⟩,
      ⟨some 30, none, .ext 0 (.t 27)⟩,
      ⟨some 31, none, .ext 1 (.t 27)⟩,
      ⟨some 9, none, .mov (.t 30)⟩,
      ⟨some 10, none, .mov (.t 31)⟩])
    (.seq (.region [⟨some 33, none, .mov (.t 0)⟩,
      ⟨some 34, none, .call i_cartoucheref23_Write [.t 33]⟩,
      ⟨some 32, none, .mov (.t 34)⟩,
      ⟨some 35, none, .ext 0 (.t 32)⟩,
      ⟨some 36, none, .ext 1 (.t 32)⟩,
      ⟨some 11, none, .mov (.t 35)⟩,
      ⟨some 12, none, .mov (.t 36)⟩])
    (.seq (.seq (.region [⟨some 37, none, .call i_cartouchelaw23_awake []⟩,
      ⟨some 38, none, .un .not (.t 37)⟩,
      ⟨some 39, none, .mov (.t 38)⟩,
      ⟨some 40, some (39, false), .mov (.t 1)⟩,
      ⟨some 41, some (39, false), .call i_frame_Sum [.t 40]⟩,
      ⟨some 42, some (39, false), .mov (.t 1)⟩,
      ⟨some 43, some (39, false), .call i_cartoucheref23_Sum [.t 42]⟩,
      ⟨some 44, some (39, false), .bin false .neq (.t 41) (.t 43)⟩,
      ⟨some 45, none, .pickb (.t 39) (.c (.bool true)) (.t 44)⟩,
      ⟨some 46, none, .mov (.t 45)⟩,
      ⟨some 47, some (46, false), .mov (.t 12)⟩,
      ⟨some 48, some (46, false), .mov (.t 47)⟩,
      ⟨some 49, some (48, true), .mov (.t 6)⟩,
      ⟨some 50, some (48, true), .bin false .neq (.t 49) (.c (.int .i64 0))⟩,
      ⟨some 51, some (48, true), .mov (.t 50)⟩,
      ⟨some 52, some (51, false), .mov (.t 5)⟩,
      ⟨some 53, some (51, false), .b2s (.t 52)⟩,
      ⟨some 54, some (51, false), .mov (.t 11)⟩,
      ⟨some 55, some (51, false), .b2s (.t 54)⟩,
      ⟨some 56, some (51, false), .bin false .neq (.t 53) (.t 55)⟩,
      ⟨some 57, some (48, true), .pickb (.t 51) (.c (.bool true)) (.t 56)⟩,
      ⟨some 58, some (46, false), .pickb (.t 48) (.t 57) (.c (.bool false))⟩,
      ⟨some 59, none, .pickb (.t 46) (.c (.bool true)) (.t 58)⟩,
      ⟨some 60, none, .mov (.t 59)⟩,
      ⟨some 61, some (60, false), .mov (.t 12)⟩,
      ⟨some 62, some (60, false), .un .not (.t 61)⟩,
      ⟨some 63, some (60, false), .mov (.t 62)⟩,
      ⟨some 64, some (63, true), .mov (.t 6)⟩,
      ⟨some 65, some (63, true), .bin false .neq (.t 64) (.c (.int .i64 1))⟩,
      ⟨some 66, some (63, true), .mov (.t 65)⟩,
      ⟨some 67, some (66, false), .mov (.t 5)⟩,
      ⟨some 68, some (66, false), .len false (.t 67)⟩,
      ⟨some 69, some (66, false), .bin false .neq (.t 68) (.c (.int .i64 0))⟩,
      ⟨some 70, some (63, true), .pickb (.t 66) (.c (.bool true)) (.t 69)⟩,
      ⟨some 71, some (60, false), .pickb (.t 63) (.t 70) (.c (.bool false))⟩,
      ⟨some 72, none, .pickb (.t 60) (.c (.bool true)) (.t 71)⟩])
    (.cond (.t 72) (.seq (.region [⟨some 4, none, .mov (.c (.bool false))⟩])
    .ret)
    .skip))
    (.seq (.region [⟨some 74, none, .mov (.t 1)⟩,
      ⟨some 75, none, .call i_cartoucheref23_Read [.t 74]⟩,
      ⟨some 73, none, .mov (.t 75)⟩,
      ⟨some 76, none, .ext 0 (.t 73)⟩,
      ⟨some 77, none, .ext 1 (.t 73)⟩,
      ⟨some 13, none, .mov (.t 76)⟩,
      ⟨some 14, none, .mov (.t 77)⟩])
    (.seq (.region [⟨some 79, none, .mov (.t 1)⟩,
      ⟨some 80, none, .call i_cartoucheref23_Salvage [.t 79]⟩,
      ⟨some 78, none, .mov (.t 80)⟩,
      ⟨some 81, none, .ext 0 (.t 78)⟩,
      ⟨some 82, none, .ext 1 (.t 78)⟩,
      ⟨some 15, none, .mov (.t 81)⟩,
      ⟨some 16, none, .mov (.t 82)⟩])
    (.seq (.region [⟨some 83, none, .mov (.t 14)⟩,
      ⟨some 84, none, .mov (.t 83)⟩,
      ⟨some 85, some (84, true), .mov (.t 8)⟩,
      ⟨some 86, some (84, true), .bin false .eql (.t 85) (.c (.int .i64 0))⟩,
      ⟨some 87, none, .pickb (.t 84) (.t 86) (.c (.bool false))⟩,
      ⟨some 88, none, .mov (.t 87)⟩,
      ⟨some 89, some (88, true), .mov (.t 7)⟩,
      ⟨some 90, some (88, true), .mov (.t 13)⟩,
      ⟨some 91, some (88, true), .call i_cartouchelaw23_lists [.t 89, .t 90]⟩,
      ⟨some 92, none, .pickb (.t 88) (.t 91) (.c (.bool false))⟩,
      ⟨some 93, none, .mov (.t 92)⟩,
      ⟨some 94, some (93, false), .mov (.t 14)⟩,
      ⟨some 95, some (93, false), .un .not (.t 94)⟩,
      ⟨some 96, some (93, false), .mov (.t 95)⟩,
      ⟨some 97, some (96, true), .mov (.t 8)⟩,
      ⟨some 98, some (96, true), .bin false .eql (.t 97) (.c (.int .i64 11))⟩,
      ⟨some 99, some (93, false), .pickb (.t 96) (.t 98) (.c (.bool false))⟩,
      ⟨some 100, some (93, false), .mov (.t 99)⟩,
      ⟨some 101, some (100, true), .mov (.t 7)⟩,
      ⟨some 102, some (100, true), .len false (.t 101)⟩,
      ⟨some 103, some (100, true), .bin false .eql (.t 102) (.c (.int .i64 0))⟩,
      ⟨some 104, some (93, false), .pickb (.t 100) (.t 103) (.c (.bool false))⟩,
      ⟨some 105, none, .pickb (.t 93) (.c (.bool true)) (.t 104)⟩,
      ⟨some 106, none, .mov (.t 105)⟩,
      ⟨some 107, some (106, true), .mov (.t 9)⟩,
      ⟨some 108, some (106, true), .mov (.t 15)⟩,
      ⟨some 109, some (106, true), .call i_cartouchelaw23_parts [.t 107, .t 108]⟩,
      ⟨some 110, none, .pickb (.t 106) (.t 109) (.c (.bool false))⟩,
      ⟨some 111, none, .mov (.t 110)⟩,
      ⟨some 112, some (111, true), .mov (.t 10)⟩,
      ⟨some 113, some (111, true), .mov (.t 16)⟩,
      ⟨some 114, some (111, true), .bin false .eql (.t 112) (.t 113)⟩,
      ⟨some 115, none, .pickb (.t 111) (.t 114) (.c (.bool false))⟩,
      ⟨some 4, none, .mov (.t 115)⟩])
    .ret))))))))), [.tmp 4]⟩
theorem T_cartouchelaw23_FrameStreams : trFn Try.prog [] Try.f3 = some A_cartouchelaw23_FrameStreams := by kernel_rfl
theorem L_cartouchelaw23_FrameStreams : 2 ≤ Try.f3.ntmps := by decide

def A_cartouchelaw23_FrameBack : AFn := ⟨(.seq (.region [⟨some 4, none, .mov (.c (.bool false))⟩])
    (.seq (.seq (.region [⟨some 20, none, .call i_cartouchelaw23_awake []⟩,
      ⟨some 21, none, .un .not (.t 20)⟩])
    (.cond (.t 21) (.seq (.region [⟨some 4, none, .mov (.c (.bool false))⟩])
    .ret)
    .skip))
    (.seq (.region [⟨some 23, none, .mov (.t 0)⟩,
      ⟨some 24, none, .call i_frame_Write [.t 23]⟩,
      ⟨some 22, none, .mov (.t 24)⟩,
      ⟨some 25, none, .ext 0 (.t 22)⟩,
      ⟨some 26, none, .ext 1 (.t 22)⟩,
      ⟨some 5, none, .mov (.t 25)⟩,
      ⟨some 6, none, .mov (.t 26)⟩])
    (.seq (.seq (.region [⟨some 27, none, .mov (.t 6)⟩,
      ⟨some 28, none, .bin false .neq (.t 27) (.c (.int .i64 0))⟩])
    (.cond (.t 28) (.seq (.region [⟨some 29, none, .mov (.t 6)⟩,
      ⟨some 30, none, .bin false .eql (.t 29) (.c (.int .i64 1))⟩,
      ⟨some 31, none, .mov (.t 30)⟩,
      ⟨some 32, some (31, true), .mov (.t 5)⟩,
      ⟨some 33, some (31, true), .len false (.t 32)⟩,
      ⟨some 34, some (31, true), .bin false .eql (.t 33) (.c (.int .i64 0))⟩,
      ⟨some 35, none, .pickb (.t 31) (.t 34) (.c (.bool false))⟩,
      ⟨some 4, none, .mov (.t 35)⟩])
    .ret)
    .skip))
    (.seq (.region [⟨some 37, none, .mov (.t 5)⟩,
      ⟨some 38, none, .call i_frame_Read [.t 37]⟩,
      ⟨some 36, none, .mov (.t 38)⟩,
      ⟨some 39, none, .ext 0 (.t 36)⟩,
      ⟨some 40, none, .ext 1 (.t 36)⟩,
      ⟨some 7, none, .mov (.t 39)⟩,
      ⟨some 8, none, .mov (.t 40)⟩])
    (.seq (.region [⟨some 42, none, .mov (.t 5)⟩,
      ⟨some 43, none, .call i_frame_Salvage [.t 42]⟩,
      ⟨some 41, none, .mov (.t 43)⟩,
      ⟨some 44, none, .ext 0 (.t 41)⟩,
      ⟨some 45, none, .ext 1 (.t 41)⟩,
      ⟨some 9, none, .mov (.t 44)⟩,
      ⟨some 10, none, .mov (.t 45)⟩])
    (.seq (.seq (.region [⟨some 46, none, .mov (.t 8)⟩,
      ⟨some 47, none, .bin false .neq (.t 46) (.c (.int .i64 0))⟩,
      ⟨some 48, none, .mov (.t 47)⟩,
      ⟨some 49, some (48, false), .mov (.t 7)⟩,
      ⟨some 50, some (48, false), .mov (.t 0)⟩,
      ⟨some 51, some (48, false), .call i_cartouchelaw23_lists [.t 49, .t 50]⟩,
      ⟨some 52, some (48, false), .un .not (.t 51)⟩,
      ⟨some 53, none, .pickb (.t 48) (.c (.bool true)) (.t 52)⟩,
      ⟨some 54, none, .mov (.t 53)⟩,
      ⟨some 55, some (54, false), .mov (.t 9)⟩,
      ⟨some 56, some (54, false), .len false (.t 55)⟩,
      ⟨some 57, some (54, false), .mov (.t 0)⟩,
      ⟨some 58, some (54, false), .len false (.t 57)⟩,
      ⟨some 59, some (54, false), .bin false .neq (.t 56) (.t 58)⟩,
      ⟨some 60, none, .pickb (.t 54) (.c (.bool true)) (.t 59)⟩,
      ⟨some 61, none, .mov (.t 60)⟩,
      ⟨some 62, some (61, false), .mov (.t 10)⟩,
      ⟨some 63, some (61, false), .bin false .neq (.t 62) (.c (.int .i64 0))⟩,
      ⟨some 64, none, .pickb (.t 61) (.c (.bool true)) (.t 63)⟩])
    (.cond (.t 64) (.seq (.region [⟨some 4, none, .mov (.c (.bool false))⟩])
    .ret)
    .skip))
    (.seq (.region [⟨some 11, none, .mov (.c (.nil))⟩])
    (.seq (.seq (.region [⟨some 12, none, .mov (.c (.int .i64 0))⟩])
    (.block 0 (.loop (.seq (.seq (.region [⟨some 65, none, .mov (.t 12)⟩,
      ⟨some 66, none, .mov (.t 1)⟩,
      ⟨some 67, none, .len false (.t 66)⟩,
      ⟨some 68, none, .bin false .lss (.t 65) (.t 67)⟩])
    (.cond (.t 68) .skip
    (.exit 0)))
    (.seq (.block 1 (.seq (.region [⟨some 71, none, .mov (.t 1)⟩,
      ⟨some 72, none, .mov (.t 12)⟩,
      ⟨some 73, none, .idxA 1 (.t 71) (.t 72)⟩,
      ⟨some 74, none, .load 1 false (.t 73)⟩,
      ⟨some 75, none, .bin false .neq (.t 74) (.c (.int .u8 126))⟩])
    (.cond (.t 75) (.region [⟨some 76, none, .mov (.t 11)⟩,
      ⟨some 77, none, .mov (.t 1)⟩,
      ⟨some 78, none, .mov (.t 12)⟩,
      ⟨some 79, none, .idxA 1 (.t 77) (.t 78)⟩,
      ⟨some 80, none, .load 1 false (.t 79)⟩,
      ⟨some 81, none, .bslice 1 [.t 80]⟩,
      ⟨some 82, none, .app 0 5 1 1 (.t 76) (.t 81)⟩,
      ⟨some 11, none, .mov (.t 82)⟩])
    .skip)))
    (.region [⟨some 69, none, .mov (.t 12)⟩,
      ⟨some 70, none, .bin false .add (.t 69) (.c (.int .i64 1))⟩,
      ⟨some 12, none, .mov (.t 70)⟩]))))))
    (.seq (.region [⟨some 13, none, .mov (.c (.nil))⟩])
    (.seq (.seq (.region [⟨some 14, none, .mov (.c (.int .i64 0))⟩])
    (.block 2 (.loop (.seq (.seq (.region [⟨some 83, none, .mov (.t 14)⟩,
      ⟨some 84, none, .mov (.t 0)⟩,
      ⟨some 85, none, .len false (.t 84)⟩,
      ⟨some 86, none, .bin false .lss (.t 83) (.t 85)⟩])
    (.cond (.t 86) .skip
    (.exit 2)))
    (.seq (.block 3 (.seq (.region [⟨some 90, none, .mov (.t 0)⟩,
      ⟨some 91, none, .mov (.t 14)⟩,
      ⟨some 92, none, .idxA 1 (.t 90) (.t 91)⟩,
      ⟨some 93, none, .load 1 false (.t 92)⟩,
      ⟨some 94, none, .bslice 1 [.t 93]⟩,
      ⟨some 95, none, .call i_frame_Write [.t 94]⟩,
      ⟨some 89, none, .mov (.t 95)⟩,
      ⟨some 96, none, .ext 0 (.t 89)⟩,
      ⟨some 97, none, .ext 1 (.t 89)⟩,
      ⟨some 15, none, .mov (.t 96)⟩,
      ⟨some 16, none, .mov (.t 97)⟩])
    (.seq (.seq (.region [⟨some 98, none, .mov (.t 16)⟩,
      ⟨some 99, none, .bin false .neq (.t 98) (.c (.int .i64 0))⟩])
    (.cond (.t 99) (.seq (.region [⟨some 4, none, .mov (.c (.bool false))⟩])
    .ret)
    .skip))
    (.region [⟨some 100, none, .mov (.t 13)⟩,
      ⟨some 101, none, .mov (.t 11)⟩,
      ⟨some 102, none, .app 1 5 1 1 (.t 100) (.t 101)⟩,
      ⟨some 103, none, .mov (.t 15)⟩,
      ⟨some 104, none, .app 1 5 1 1 (.t 102) (.t 103)⟩,
      ⟨some 13, none, .mov (.t 104)⟩]))))
    (.region [⟨some 87, none, .mov (.t 14)⟩,
      ⟨some 88, none, .bin false .add (.t 87) (.c (.int .i64 1))⟩,
      ⟨some 14, none, .mov (.t 88)⟩]))))))
    (.seq (.region [⟨some 105, none, .mov (.t 13)⟩,
      ⟨some 106, none, .mov (.t 11)⟩,
      ⟨some 107, none, .app 1 5 1 1 (.t 105) (.t 106)⟩,
      ⟨some 13, none, .mov (.t 107)⟩])
    (.seq (.region [⟨some 109, none, .mov (.t 13)⟩,
      ⟨some 110, none, .call i_frame_Salvage [.t 109]⟩,
      ⟨some 108, none, .mov (.t 110)⟩,
      ⟨some 111, none, .ext 0 (.t 108)⟩,
      ⟨some 112, none, .ext 1 (.t 108)⟩,
      ⟨some 17, none, .mov (.t 111)⟩,
      ⟨some 18, none, .mov (.t 112)⟩])
    (.seq (.seq (.region [⟨some 113, none, .mov (.t 17)⟩,
      ⟨some 114, none, .len false (.t 113)⟩,
      ⟨some 115, none, .mov (.t 0)⟩,
      ⟨some 116, none, .len false (.t 115)⟩,
      ⟨some 117, none, .bin false .neq (.t 114) (.t 116)⟩,
      ⟨some 118, none, .mov (.t 117)⟩,
      ⟨some 119, some (118, false), .mov (.t 18)⟩,
      ⟨some 120, some (118, false), .mov (.t 0)⟩,
      ⟨some 121, some (118, false), .len false (.t 120)⟩,
      ⟨some 122, some (118, false), .bin false .add (.t 121) (.c (.int .i64 1))⟩,
      ⟨some 123, some (118, false), .mov (.t 11)⟩,
      ⟨some 124, some (118, false), .len false (.t 123)⟩,
      ⟨some 125, some (118, false), .bin false .mul (.t 122) (.t 124)⟩,
      ⟨some 126, some (118, false), .bin false .neq (.t 119) (.t 125)⟩,
      ⟨some 127, none, .pickb (.t 118) (.c (.bool true)) (.t 126)⟩])
    (.cond (.t 127) (.seq (.region [⟨some 4, none, .mov (.c (.bool false))⟩])
    .ret)
    .skip))
    (.seq (.seq (.region [⟨some 19, none, .mov (.c (.int .i64 0))⟩])
    (.block 4 (.loop (.seq (.seq (.region [⟨some 128, none, .mov (.t 19)⟩,
      ⟨some 129, none, .mov (.t 0)⟩,
      ⟨some 130, none, .len false (.t 129)⟩,
      ⟨some 131, none, .bin false .lss (.t 128) (.t 130)⟩])
    (.cond (.t 131) .skip
    (.exit 4)))
    (.seq (.block 5 (.seq (.draw [] [⟨some 134, none, .mov (.t 17)⟩,
      ⟨some 135, none, .mov (.t 19)⟩,
      ⟨some 136, none, .idxA 2 (.t 134) (.t 135)⟩,
      ⟨some 137, none, .fldA 1 1 false (.t 136)⟩,
      ⟨some 138, none, .load 1 false (.t 137)⟩,
      ⟨some 139, none, .b2s (.t 138)⟩,
      ⟨some 140, none, .mov (.t 0)⟩,
      ⟨some 141, none, .mov (.t 19)⟩,
      ⟨some 142, none, .idxA 1 (.t 140) (.t 141)⟩,
      ⟨some 143, none, .load 1 false (.t 142)⟩,
      ⟨some 144, none, .b2s (.t 143)⟩,
      ⟨some 145, none, .bin false .neq (.t 139) (.t 144)⟩])
    (.cond (.t 145) (.seq (.region [⟨some 4, none, .mov (.c (.bool false))⟩])
    .ret)
    .skip)))
    (.region [⟨some 132, none, .mov (.t 19)⟩,
      ⟨some 133, none, .bin false .add (.t 132) (.c (.int .i64 1))⟩,
      ⟨some 19, none, .mov (.t 133)⟩]))))))
    (.seq (.region [⟨some 4, none, .mov (.c (.bool true))⟩])
    .ret)))))))))))))))), [.tmp 4]⟩
theorem T_cartouchelaw23_FrameBack : trFn Try.prog [(23, [0, 0, 1, 0, 1, 0]), (24, [0, 0, 1, 0])] Try.f4 = some A_cartouchelaw23_FrameBack := by kernel_rfl
theorem L_cartouchelaw23_FrameBack : 2 ≤ Try.f4.ntmps := by decide

def A_cartouchelaw23_FrameAdds : AFn := ⟨(.seq (.region [⟨some 2, none, .mov (.c (.bool false))⟩])
    (.seq (.seq (.region [⟨some 10, none, .call i_cartouchelaw23_awake []⟩,
      ⟨some 11, none, .un .not (.t 10)⟩])
    (.cond (.t 11) (.seq (.region [⟨some 2, none, .mov (.c (.bool false))⟩])
    .ret)
    .skip))
    (.seq (.region [⟨some 13, none, .mov (.t 0)⟩,
      ⟨some 14, none, .call i_frame_Salvage [.t 13]⟩,
      ⟨some 12, none, .mov (.t 14)⟩,
      ⟨some 15, none, .ext 0 (.t 12)⟩,
      ⟨some 16, none, .ext 1 (.t 12)⟩,
      ⟨some 3, none, .mov (.t 15)⟩,
      ⟨some 4, none, .mov (.t 16)⟩])
    (.seq (.region [⟨some 17, none, .mov (.t 4)⟩,
      ⟨some 5, none, .mov (.t 17)⟩])
    (.seq (.region [⟨some 6, none, .mov (.c (.int .i64 0))⟩])
    (.seq (.seq (.region [⟨some 7, none, .mov (.c (.int .i64 0))⟩])
    (.block 0 (.loop (.seq (.seq (.region [⟨some 18, none, .mov (.t 7)⟩,
      ⟨some 19, none, .mov (.t 3)⟩,
      ⟨some 20, none, .len false (.t 19)⟩,
      ⟨some 21, none, .bin false .lss (.t 18) (.t 20)⟩])
    (.cond (.t 21) .skip
    (.exit 0)))
    (.seq (.block 1 (.seq (.region [⟨some 25, none, .mov (.t 3)⟩,
      ⟨some 26, none, .mov (.t 7)⟩,
      ⟨some 27, none, .idxA 2 (.t 25) (.t 26)⟩,
      ⟨some 28, none, .fldA 1 1 false (.t 27)⟩,
      ⟨some 29, none, .load 1 false (.t 28)⟩,
      ⟨some 30, none, .bslice 1 [.t 29]⟩,
      ⟨some 31, none, .call i_frame_Write [.t 30]⟩,
      ⟨some 24, none, .mov (.t 31)⟩,
      ⟨some 32, none, .ext 0 (.t 24)⟩,
      ⟨some 33, none, .ext 1 (.t 24)⟩,
      ⟨some 8, none, .mov (.t 32)⟩,
      ⟨some 9, none, .mov (.t 33)⟩])
    (.seq (.seq (.draw [] [⟨some 34, none, .mov (.t 9)⟩,
      ⟨some 35, none, .bin false .neq (.t 34) (.c (.int .i64 0))⟩,
      ⟨some 36, none, .mov (.t 35)⟩,
      ⟨some 37, some (36, false), .mov (.t 3)⟩,
      ⟨some 38, some (36, false), .mov (.t 7)⟩,
      ⟨some 39, some (36, false), .idxA 2 (.t 37) (.t 38)⟩,
      ⟨some 40, some (36, false), .fldA 0 1 false (.t 39)⟩,
      ⟨some 41, some (36, false), .load 1 false (.t 40)⟩,
      ⟨some 42, some (36, false), .mov (.t 6)⟩,
      ⟨some 43, some (36, false), .bin false .lss (.t 41) (.t 42)⟩,
      ⟨some 44, none, .pickb (.t 36) (.c (.bool true)) (.t 43)⟩,
      ⟨some 45, none, .mov (.t 44)⟩,
      ⟨some 46, some (45, false), .mov (.t 3)⟩,
      ⟨some 47, some (45, false), .mov (.t 7)⟩,
      ⟨some 48, some (45, false), .idxA 2 (.t 46) (.t 47)⟩,
      ⟨some 49, some (45, false), .fldA 0 1 false (.t 48)⟩,
      ⟨some 50, some (45, false), .load 1 false (.t 49)⟩,
      ⟨some 51, some (45, false), .mov (.t 8)⟩,
      ⟨some 52, some (45, false), .len false (.t 51)⟩,
      ⟨some 53, some (45, false), .bin false .add (.t 50) (.t 52)⟩,
      ⟨some 54, some (45, false), .mov (.t 0)⟩,
      ⟨some 55, some (45, false), .len false (.t 54)⟩,
      ⟨some 56, some (45, false), .bin false .gtr (.t 53) (.t 55)⟩,
      ⟨some 57, none, .pickb (.t 45) (.c (.bool true)) (.t 56)⟩,
      ⟨some 58, none, .mov (.t 57)⟩,
      ⟨some 59, some (58, false), .mov (.t 8)⟩,
      ⟨some 60, some (58, false), .b2s (.t 59)⟩,
      ⟨some 61, some (58, false), .mov (.t 0)⟩,
      ⟨some 62, some (58, false), .mov (.t 3)⟩,
      ⟨some 63, some (58, false), .mov (.t 7)⟩,
      ⟨some 64, some (58, false), .idxA 2 (.t 62) (.t 63)⟩,
      ⟨some 65, some (58, false), .fldA 0 1 false (.t 64)⟩,
      ⟨some 66, some (58, false), .load 1 false (.t 65)⟩,
      ⟨some 67, some (58, false), .mov (.t 3)⟩,
      ⟨some 68, some (58, false), .mov (.t 7)⟩,
      ⟨some 69, some (58, false), .idxA 2 (.t 67) (.t 68)⟩,
      ⟨some 70, some (58, false), .fldA 0 1 false (.t 69)⟩,
      ⟨some 71, some (58, false), .load 1 false (.t 70)⟩,
      ⟨some 72, some (58, false), .mov (.t 8)⟩,
      ⟨some 73, some (58, false), .len false (.t 72)⟩,
      ⟨some 74, some (58, false), .bin false .add (.t 71) (.t 73)⟩,
      ⟨some 75, some (58, false), .slc 1 (.t 61) (some (.t 66)) (some (.t 74)) none⟩,
      ⟨some 76, some (58, false), .b2s (.t 75)⟩,
      ⟨some 77, some (58, false), .bin false .neq (.t 60) (.t 76)⟩,
      ⟨some 78, none, .pickb (.t 58) (.c (.bool true)) (.t 77)⟩])
    (.cond (.t 78) (.seq (.region [⟨some 2, none, .mov (.c (.bool false))⟩])
    .ret)
    .skip))
    (.seq (.region [⟨some 79, none, .mov (.t 3)⟩,
      ⟨some 80, none, .mov (.t 7)⟩,
      ⟨some 81, none, .idxA 2 (.t 79) (.t 80)⟩,
      ⟨some 82, none, .fldA 0 1 false (.t 81)⟩,
      ⟨some 83, none, .load 1 false (.t 82)⟩,
      ⟨some 84, none, .mov (.t 8)⟩,
      ⟨some 85, none, .len false (.t 84)⟩,
      ⟨some 86, none, .bin false .add (.t 83) (.t 85)⟩,
      ⟨some 6, none, .mov (.t 86)⟩])
    (.region [⟨some 87, none, .mov (.t 5)⟩,
      ⟨some 88, none, .mov (.t 8)⟩,
      ⟨some 89, none, .len false (.t 88)⟩,
      ⟨some 90, none, .bin false .add (.t 87) (.t 89)⟩,
      ⟨some 5, none, .mov (.t 90)⟩])))))
    (.region [⟨some 22, none, .mov (.t 7)⟩,
      ⟨some 23, none, .bin false .add (.t 22) (.c (.int .i64 1))⟩,
      ⟨some 7, none, .mov (.t 23)⟩]))))))
    (.seq (.region [⟨some 91, none, .mov (.t 4)⟩,
      ⟨some 92, none, .bin false .geq (.t 91) (.c (.int .i64 0))⟩,
      ⟨some 93, none, .mov (.t 92)⟩,
      ⟨some 94, some (93, true), .mov (.t 5)⟩,
      ⟨some 95, some (93, true), .mov (.t 0)⟩,
      ⟨some 96, some (93, true), .len false (.t 95)⟩,
      ⟨some 97, some (93, true), .bin false .eql (.t 94) (.t 96)⟩,
      ⟨some 98, none, .pickb (.t 93) (.t 97) (.c (.bool false))⟩,
      ⟨some 2, none, .mov (.t 98)⟩])
    .ret))))))), [.tmp 2]⟩
theorem T_cartouchelaw23_FrameAdds : trFn Try.prog [] Try.f5 = some A_cartouchelaw23_FrameAdds := by kernel_rfl
theorem L_cartouchelaw23_FrameAdds : 1 ≤ Try.f5.ntmps := by decide

end Go.Proofs.Ytinoaofgbkdohaa.Ag
