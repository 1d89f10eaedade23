/- The closed law WireKnown, evaluated without memory. -/
import Derived.Test.YtfmeedphpcjkmaaProg
import Derived.Test.YtfmeedphpcjkmaaAgV
set_option maxRecDepth 100000
namespace Go.Proofs.Ytfmeedphpcjkmaa.Ag
set_option maxRecDepth 100000
abbrev i_cartouchelaw1_WireKnown : FuncId := 8
theorem F_cartouchelaw1_WireKnown : Try.prog.funcs[i_cartouchelaw1_WireKnown]? = some Try.f8 := Try.func8
abbrev i_wire_GetVarint : FuncId := 11
theorem F_wire_GetVarint : Try.prog.funcs[i_wire_GetVarint]? = some Try.f11 := Try.func11
abbrev i_cartouchelaw1_awake : FuncId := 13
theorem F_cartouchelaw1_awake : Try.prog.funcs[i_cartouchelaw1_awake]? = some Try.f13 := Try.func13
abbrev i_cartouchelaw1_same : FuncId := 14
theorem F_cartouchelaw1_same : Try.prog.funcs[i_cartouchelaw1_same]? = some Try.f14 := Try.func14
abbrev i_wire_PutVarint : FuncId := 15
theorem F_wire_PutVarint : Try.prog.funcs[i_wire_PutVarint]? = some Try.f15 := Try.func15
abbrev i_wire_Size : FuncId := 16
theorem F_wire_Size : Try.prog.funcs[i_wire_Size]? = some Try.f16 := Try.func16
abbrev i_wire_ZigZag : FuncId := 17
theorem F_wire_ZigZag : Try.prog.funcs[i_wire_ZigZag]? = some Try.f17 := Try.func17
abbrev i_wire_ZagZig : FuncId := 19
theorem F_wire_ZagZig : Try.prog.funcs[i_wire_ZagZig]? = some Try.f19 := Try.func19
abbrev i_wire_PutTag : FuncId := 22
theorem F_wire_PutTag : Try.prog.funcs[i_wire_PutTag]? = some Try.f22 := Try.func22
abbrev i_wire_GetTag : FuncId := 23
theorem F_wire_GetTag : Try.prog.funcs[i_wire_GetTag]? = some Try.f23 := Try.func23
abbrev i_wire_GetFix32 : FuncId := 26
theorem F_wire_GetFix32 : Try.prog.funcs[i_wire_GetFix32]? = some Try.f26 := Try.func26
abbrev i_wire_GetChunk : FuncId := 28
theorem F_wire_GetChunk : Try.prog.funcs[i_wire_GetChunk]? = some Try.f28 := Try.func28
abbrev i_wire_PutFix32 : FuncId := 29
theorem F_wire_PutFix32 : Try.prog.funcs[i_wire_PutFix32]? = some Try.f29 := Try.func29
abbrev i_wire_PutChunk : FuncId := 32
theorem F_wire_PutChunk : Try.prog.funcs[i_wire_PutChunk]? = some Try.f32 := Try.func32
abbrev i_wire_Split : FuncId := 36
theorem F_wire_Split : Try.prog.funcs[i_wire_Split]? = some Try.f36 := Try.func36
abbrev i_cartoucheref1_List : FuncId := 37
theorem F_cartoucheref1_List : Try.prog.funcs[i_cartoucheref1_List]? = some Try.f37 := Try.func37
abbrev i_wire_PutEntry : FuncId := 38
theorem F_wire_PutEntry : Try.prog.funcs[i_wire_PutEntry]? = some Try.f38 := Try.func38
abbrev i_wire_GetEntry : FuncId := 39
theorem F_wire_GetEntry : Try.prog.funcs[i_wire_GetEntry]? = some Try.f39 := Try.func39
abbrev i_cartoucheref1_Same : FuncId := 40
theorem F_cartoucheref1_Same : Try.prog.funcs[i_cartoucheref1_Same]? = some Try.f40 := Try.func40
abbrev i_cartouchelaw1_reads : FuncId := 41
theorem F_cartouchelaw1_reads : Try.prog.funcs[i_cartouchelaw1_reads]? = some Try.f41 := Try.func41
abbrev i_wire_place : FuncId := 46
theorem F_wire_place : Try.prog.funcs[i_wire_place]? = some Try.f46 := Try.func46
abbrev i_wire_varint : FuncId := 47
theorem F_wire_varint : Try.prog.funcs[i_wire_varint]? = some Try.f47 := Try.func47
abbrev i_bits_Len64 : FuncId := 48
theorem F_bits_Len64 : Try.prog.funcs[i_bits_Len64]? = some Try.f48 := Try.func48
abbrev i_wire_isKind : FuncId := 49
theorem F_wire_isKind : Try.prog.funcs[i_wire_isKind]? = some Try.f49 := Try.func49
abbrev i_wire_read : FuncId := 51
theorem F_wire_read : Try.prog.funcs[i_wire_read]? = some Try.f51 := Try.func51
abbrev i_wire_Span : FuncId := 52
theorem F_wire_Span : Try.prog.funcs[i_wire_Span]? = some Try.f52 := Try.func52
abbrev i_wire_word : FuncId := 53
theorem F_wire_word : Try.prog.funcs[i_wire_word]? = some Try.f53 := Try.func53

/-! cartouche/cartouchelaw1.WireKnown -/
def A_cartouchelaw1_WireKnown : AFn := ⟨(.seq (.region [⟨some 0, none, .mov (.c (.bool false))⟩])
    (.seq (.region [⟨some 24, none, .blit 0 5 1 [.c (.int .u8 255), .c (.int .u8 255), .c (.int .u8 255), .c (.int .u8 255), .c (.int .u8 255), .c (.int .u8 255), .c (.int .u8 255), .c (.int .u8 255), .c (.int .u8 255), .c (.int .u8 1)]⟩,
      ⟨some 1, none, .mov (.t 24)⟩])
    (.seq (.region [⟨some 25, none, .blit 0 5 1 [.c (.int .u8 255), .c (.int .u8 255), .c (.int .u8 255), .c (.int .u8 255), .c (.int .u8 255), .c (.int .u8 255), .c (.int .u8 255), .c (.int .u8 255), .c (.int .u8 255), .c (.int .u8 2)]⟩,
      ⟨some 2, none, .mov (.t 25)⟩])
    (.seq (.seq (.region [⟨some 26, none, .call i_cartouchelaw1_awake []⟩,
      ⟨some 27, none, .un .not (.t 26)⟩,
      ⟨some 28, none, .mov (.t 27)⟩,
      ⟨some 29, some (28, false), .call i_wire_PutVarint [.c (.int .u64 0)]⟩,
      ⟨some 30, some (28, false), .blit 0 5 1 [.c (.int .u8 0)]⟩,
      ⟨some 31, some (28, false), .call i_cartouchelaw1_same [.t 29, .t 30]⟩,
      ⟨some 32, some (28, false), .un .not (.t 31)⟩,
      ⟨some 33, none, .pickb (.t 28) (.c (.bool true)) (.t 32)⟩,
      ⟨some 34, none, .mov (.t 33)⟩,
      ⟨some 35, some (34, false), .call i_wire_PutVarint [.c (.int .u64 18446744073709551615)]⟩,
      ⟨some 36, some (34, false), .mov (.t 1)⟩,
      ⟨some 37, some (34, false), .call i_cartouchelaw1_same [.t 35, .t 36]⟩,
      ⟨some 38, some (34, false), .un .not (.t 37)⟩,
      ⟨some 39, none, .pickb (.t 34) (.c (.bool true)) (.t 38)⟩,
      ⟨some 40, none, .mov (.t 39)⟩,
      ⟨some 41, some (40, false), .call i_wire_Size [.c (.int .u64 128)]⟩,
      ⟨some 42, some (40, false), .bin false .neq (.t 41) (.c (.int .i64 2))⟩,
      ⟨some 43, none, .pickb (.t 40) (.c (.bool true)) (.t 42)⟩,
      ⟨some 44, none, .mov (.t 43)⟩,
      ⟨some 45, some (44, false), .blit 0 5 1 [.c (.int .u8 128), .c (.int .u8 0)]⟩,
      ⟨some 46, some (44, false), .call i_cartouchelaw1_reads [.t 45, .c (.int .i64 0), .c (.int .u64 0), .c (.int .i64 2), .c (.int .i64 0)]⟩,
      ⟨some 47, some (44, false), .un .not (.t 46)⟩,
      ⟨some 48, none, .pickb (.t 44) (.c (.bool true)) (.t 47)⟩,
      ⟨some 49, none, .mov (.t 48)⟩,
      ⟨some 50, some (49, false), .mov (.t 2)⟩,
      ⟨some 51, some (49, false), .call i_cartouchelaw1_reads [.t 50, .c (.int .i64 0), .c (.int .u64 0), .c (.int .i64 0), .c (.int .i64 4)]⟩,
      ⟨some 52, some (49, false), .un .not (.t 51)⟩,
      ⟨some 53, none, .pickb (.t 49) (.c (.bool true)) (.t 52)⟩,
      ⟨some 54, none, .mov (.t 53)⟩,
      ⟨some 55, some (54, false), .blit 0 5 1 [.c (.int .u8 128)]⟩,
      ⟨some 56, some (54, false), .call i_cartouchelaw1_reads [.t 55, .c (.int .i64 0), .c (.int .u64 0), .c (.int .i64 0), .c (.int .i64 3)]⟩,
      ⟨some 57, some (54, false), .un .not (.t 56)⟩,
      ⟨some 58, none, .pickb (.t 54) (.c (.bool true)) (.t 57)⟩,
      ⟨some 59, none, .mov (.t 58)⟩,
      ⟨some 60, some (59, false), .blit 0 5 1 [.c (.int .u8 1)]⟩,
      ⟨some 61, some (59, false), .call i_cartouchelaw1_reads [.t 60, .c (.int .i64 1), .c (.int .u64 0), .c (.int .i64 0), .c (.int .i64 3)]⟩,
      ⟨some 62, some (59, false), .un .not (.t 61)⟩,
      ⟨some 63, none, .pickb (.t 59) (.c (.bool true)) (.t 62)⟩,
      ⟨some 64, none, .mov (.t 63)⟩,
      ⟨some 65, some (64, false), .blit 0 5 1 [.c (.int .u8 1)]⟩,
      ⟨some 66, some (64, false), .call i_cartouchelaw1_reads [.t 65, .c (.int .i64 2), .c (.int .u64 0), .c (.int .i64 0), .c (.int .i64 18)]⟩,
      ⟨some 67, some (64, false), .un .not (.t 66)⟩,
      ⟨some 68, none, .pickb (.t 64) (.c (.bool true)) (.t 67)⟩])
    (.cond (.t 68) (.seq (.region [⟨some 0, none, .mov (.c (.bool false))⟩])
    .ret)
    .skip))
    (.seq (.seq (.region [⟨some 69, none, .call i_wire_ZigZag [.c (.int .i64 (-1))]⟩,
      ⟨some 70, none, .bin false .neq (.t 69) (.c (.int .u64 1))⟩,
      ⟨some 71, none, .mov (.t 70)⟩,
      ⟨some 72, some (71, false), .call i_wire_ZigZag [.c (.int .i64 1)]⟩,
      ⟨some 73, some (71, false), .bin false .neq (.t 72) (.c (.int .u64 2))⟩,
      ⟨some 74, none, .pickb (.t 71) (.c (.bool true)) (.t 73)⟩,
      ⟨some 75, none, .mov (.t 74)⟩,
      ⟨some 76, some (75, false), .call i_wire_ZigZag [.c (.int .i64 (-9223372036854775808))]⟩,
      ⟨some 77, some (75, false), .bin false .neq (.t 76) (.c (.int .u64 18446744073709551615))⟩,
      ⟨some 78, none, .pickb (.t 75) (.c (.bool true)) (.t 77)⟩,
      ⟨some 79, none, .mov (.t 78)⟩,
      ⟨some 80, some (79, false), .call i_wire_ZagZig [.c (.int .u64 3)]⟩,
      ⟨some 81, some (79, false), .bin false .neq (.t 80) (.c (.int .i64 (-2)))⟩,
      ⟨some 82, none, .pickb (.t 79) (.c (.bool true)) (.t 81)⟩,
      ⟨some 83, none, .mov (.t 82)⟩,
      ⟨some 84, some (83, false), .call i_wire_PutFix32 [.c (.int .u32 258)]⟩,
      ⟨some 85, some (83, false), .blit 0 5 1 [.c (.int .u8 2), .c (.int .u8 1), .c (.int .u8 0), .c (.int .u8 0)]⟩,
      ⟨some 86, some (83, false), .call i_cartouchelaw1_same [.t 84, .t 85]⟩,
      ⟨some 87, some (83, false), .un .not (.t 86)⟩,
      ⟨some 88, none, .pickb (.t 83) (.c (.bool true)) (.t 87)⟩])
    (.cond (.t 88) (.seq (.region [⟨some 0, none, .mov (.c (.bool false))⟩])
    .ret)
    .skip))
    (.seq (.region [⟨some 90, none, .blit 0 5 1 [.c (.int .u8 1), .c (.int .u8 0), .c (.int .u8 0)]⟩,
      ⟨some 91, none, .call i_wire_GetFix32 [.t 90, .c (.int .i64 0)]⟩,
      ⟨some 89, none, .mov (.t 91)⟩,
      ⟨some 92, none, .ext 0 (.t 89)⟩,
      ⟨some 93, none, .ext 1 (.t 89)⟩,
      ⟨some 94, none, .ext 2 (.t 89)⟩,
      ⟨some 3, none, .mov (.t 92)⟩,
      ⟨some 4, none, .mov (.t 93)⟩,
      ⟨some 5, none, .mov (.t 94)⟩])
    (.seq (.region [⟨some 96, none, .blit 0 5 1 [.c (.int .u8 2), .c (.int .u8 7)]⟩,
      ⟨some 97, none, .call i_wire_GetChunk [.t 96, .c (.int .i64 0)]⟩,
      ⟨some 95, none, .mov (.t 97)⟩,
      ⟨some 98, none, .ext 0 (.t 95)⟩,
      ⟨some 99, none, .ext 1 (.t 95)⟩,
      ⟨some 100, none, .ext 2 (.t 95)⟩,
      ⟨some 6, none, .mov (.t 98)⟩,
      ⟨some 7, none, .mov (.t 99)⟩,
      ⟨some 8, none, .mov (.t 100)⟩])
    (.seq (.seq (.region [⟨some 101, none, .mov (.t 5)⟩,
      ⟨some 102, none, .bin false .neq (.t 101) (.c (.int .i64 3))⟩,
      ⟨some 103, none, .mov (.t 102)⟩,
      ⟨some 104, some (103, false), .mov (.t 8)⟩,
      ⟨some 105, some (103, false), .bin false .neq (.t 104) (.c (.int .i64 3))⟩,
      ⟨some 106, none, .pickb (.t 103) (.c (.bool true)) (.t 105)⟩,
      ⟨some 107, none, .mov (.t 106)⟩,
      ⟨some 108, some (107, false), .blit 0 5 1 [.c (.int .u8 7)]⟩,
      ⟨some 109, some (107, false), .call i_wire_PutChunk [.t 108]⟩,
      ⟨some 110, some (107, false), .blit 0 5 1 [.c (.int .u8 1), .c (.int .u8 7)]⟩,
      ⟨some 111, some (107, false), .call i_cartouchelaw1_same [.t 109, .t 110]⟩,
      ⟨some 112, some (107, false), .un .not (.t 111)⟩,
      ⟨some 113, none, .pickb (.t 107) (.c (.bool true)) (.t 112)⟩])
    (.cond (.t 113) (.seq (.region [⟨some 0, none, .mov (.c (.bool false))⟩])
    .ret)
    .skip))
    (.seq (.region [⟨some 115, none, .call i_wire_PutTag [.c (.int .i64 1), .c (.int .i64 2)]⟩,
      ⟨some 114, none, .mov (.t 115)⟩,
      ⟨some 116, none, .ext 0 (.t 114)⟩,
      ⟨some 117, none, .ext 1 (.t 114)⟩,
      ⟨some 9, none, .mov (.t 116)⟩,
      ⟨some 5, none, .mov (.t 117)⟩])
    (.seq (.region [⟨some 119, none, .call i_wire_PutTag [.c (.int .i64 0), .c (.int .i64 0)]⟩,
      ⟨some 118, none, .mov (.t 119)⟩,
      ⟨some 120, none, .ext 0 (.t 118)⟩,
      ⟨some 121, none, .ext 1 (.t 118)⟩,
      ⟨some 8, none, .mov (.t 121)⟩])
    (.seq (.region [⟨some 123, none, .call i_wire_PutTag [.c (.int .i64 1), .c (.int .i64 3)]⟩,
      ⟨some 122, none, .mov (.t 123)⟩,
      ⟨some 124, none, .ext 0 (.t 122)⟩,
      ⟨some 125, none, .ext 1 (.t 122)⟩,
      ⟨some 10, none, .mov (.t 124)⟩,
      ⟨some 11, none, .mov (.t 125)⟩])
    (.seq (.region [⟨some 127, none, .blit 0 5 1 [.c (.int .u8 11)]⟩,
      ⟨some 128, none, .call i_wire_GetTag [.t 127, .c (.int .i64 0)]⟩,
      ⟨some 126, none, .mov (.t 128)⟩,
      ⟨some 129, none, .ext 0 (.t 126)⟩,
      ⟨some 130, none, .ext 1 (.t 126)⟩,
      ⟨some 131, none, .ext 2 (.t 126)⟩,
      ⟨some 132, none, .ext 3 (.t 126)⟩,
      ⟨some 12, none, .mov (.t 129)⟩,
      ⟨some 13, none, .mov (.t 130)⟩,
      ⟨some 14, none, .mov (.t 131)⟩,
      ⟨some 15, none, .mov (.t 132)⟩])
    (.seq (.region [⟨some 134, none, .blit 0 5 1 [.c (.int .u8 0)]⟩,
      ⟨some 135, none, .call i_wire_GetTag [.t 134, .c (.int .i64 0)]⟩,
      ⟨some 133, none, .mov (.t 135)⟩,
      ⟨some 136, none, .ext 0 (.t 133)⟩,
      ⟨some 137, none, .ext 1 (.t 133)⟩,
      ⟨some 138, none, .ext 2 (.t 133)⟩,
      ⟨some 139, none, .ext 3 (.t 133)⟩,
      ⟨some 16, none, .mov (.t 136)⟩,
      ⟨some 17, none, .mov (.t 137)⟩,
      ⟨some 18, none, .mov (.t 138)⟩,
      ⟨some 19, none, .mov (.t 139)⟩])
    (.seq (.seq (.region [⟨some 140, none, .mov (.t 5)⟩,
      ⟨some 141, none, .bin false .neq (.t 140) (.c (.int .i64 0))⟩,
      ⟨some 142, none, .mov (.t 141)⟩,
      ⟨some 143, some (142, false), .mov (.t 9)⟩,
      ⟨some 144, some (142, false), .blit 0 5 1 [.c (.int .u8 10)]⟩,
      ⟨some 145, some (142, false), .call i_cartouchelaw1_same [.t 143, .t 144]⟩,
      ⟨some 146, some (142, false), .un .not (.t 145)⟩,
      ⟨some 147, none, .pickb (.t 142) (.c (.bool true)) (.t 146)⟩,
      ⟨some 148, none, .mov (.t 147)⟩,
      ⟨some 149, some (148, false), .mov (.t 8)⟩,
      ⟨some 150, some (148, false), .bin false .neq (.t 149) (.c (.int .i64 5))⟩,
      ⟨some 151, none, .pickb (.t 148) (.c (.bool true)) (.t 150)⟩,
      ⟨some 152, none, .mov (.t 151)⟩,
      ⟨some 153, some (152, false), .mov (.t 11)⟩,
      ⟨some 154, some (152, false), .bin false .neq (.t 153) (.c (.int .i64 6))⟩,
      ⟨some 155, none, .pickb (.t 152) (.c (.bool true)) (.t 154)⟩,
      ⟨some 156, none, .mov (.t 155)⟩,
      ⟨some 157, some (156, false), .mov (.t 15)⟩,
      ⟨some 158, some (156, false), .bin false .neq (.t 157) (.c (.int .i64 6))⟩,
      ⟨some 159, none, .pickb (.t 156) (.c (.bool true)) (.t 158)⟩,
      ⟨some 160, none, .mov (.t 159)⟩,
      ⟨some 161, some (160, false), .mov (.t 19)⟩,
      ⟨some 162, some (160, false), .bin false .neq (.t 161) (.c (.int .i64 5))⟩,
      ⟨some 163, none, .pickb (.t 160) (.c (.bool true)) (.t 162)⟩])
    (.cond (.t 163) (.seq (.region [⟨some 0, none, .mov (.c (.bool false))⟩])
    .ret)
    .skip))
    (.seq (.region [⟨some 165, none, .build [.int .i64 0, .int .i64 0, .int .u64 0, .nil] [(0, 1, .c (.int .i64 1)), (2, 1, .c (.int .u64 5))]⟩,
      ⟨some 166, none, .call i_wire_PutEntry [.t 165]⟩,
      ⟨some 164, none, .mov (.t 166)⟩,
      ⟨some 167, none, .ext 0 (.t 164)⟩,
      ⟨some 168, none, .ext 1 (.t 164)⟩,
      ⟨some 20, none, .mov (.t 167)⟩,
      ⟨some 5, none, .mov (.t 168)⟩])
    (.seq (.region [⟨some 170, none, .blit 0 5 1 [.c (.int .u8 18), .c (.int .u8 1), .c (.int .u8 9), .c (.int .u8 8)]⟩,
      ⟨some 171, none, .call i_wire_GetEntry [.t 170, .c (.int .i64 0)]⟩,
      ⟨some 169, none, .mov (.t 171)⟩,
      ⟨some 172, none, .ext 0 (.t 169)⟩,
      ⟨some 173, none, .ext 1 (.t 169)⟩,
      ⟨some 174, none, .ext 2 (.t 169)⟩,
      ⟨some 21, none, .alloc 0 [.int .i64 0, .int .i64 0, .int .u64 0, .nil]⟩,
      ⟨none, none, .store 4 (.t 21) (.t 172)⟩,
      ⟨some 22, none, .mov (.t 173)⟩,
      ⟨some 8, none, .mov (.t 174)⟩])
    (.seq (.region [⟨some 176, none, .blit 0 5 1 [.c (.int .u8 8), .c (.int .u8 1), .c (.int .u8 18), .c (.int .u8 0)]⟩,
      ⟨some 177, none, .call i_wire_Split [.t 176]⟩,
      ⟨some 175, none, .mov (.t 177)⟩,
      ⟨some 178, none, .ext 0 (.t 175)⟩,
      ⟨some 179, none, .ext 1 (.t 175)⟩,
      ⟨some 23, none, .mov (.t 178)⟩,
      ⟨some 11, none, .mov (.t 179)⟩])
    (.seq (.region [⟨some 181, none, .blit 0 5 1 [.c (.int .u8 8)]⟩,
      ⟨some 182, none, .call i_wire_Split [.t 181]⟩,
      ⟨some 180, none, .mov (.t 182)⟩,
      ⟨some 183, none, .ext 0 (.t 180)⟩,
      ⟨some 184, none, .ext 1 (.t 180)⟩,
      ⟨some 15, none, .mov (.t 184)⟩])
    (.seq (.region [⟨some 185, none, .mov (.t 5)⟩,
      ⟨some 186, none, .bin false .eql (.t 185) (.c (.int .i64 0))⟩,
      ⟨some 187, none, .mov (.t 186)⟩,
      ⟨some 188, some (187, true), .mov (.t 20)⟩,
      ⟨some 189, some (187, true), .blit 0 5 1 [.c (.int .u8 8), .c (.int .u8 5)]⟩,
      ⟨some 190, some (187, true), .call i_cartouchelaw1_same [.t 188, .t 189]⟩,
      ⟨some 191, none, .pickb (.t 187) (.t 190) (.c (.bool false))⟩,
      ⟨some 192, none, .mov (.t 191)⟩,
      ⟨some 193, some (192, true), .mov (.t 8)⟩,
      ⟨some 194, some (192, true), .bin false .eql (.t 193) (.c (.int .i64 0))⟩,
      ⟨some 195, none, .pickb (.t 192) (.t 194) (.c (.bool false))⟩,
      ⟨some 196, none, .mov (.t 195)⟩,
      ⟨some 197, some (196, true), .mov (.t 22)⟩,
      ⟨some 198, some (196, true), .bin false .eql (.t 197) (.c (.int .i64 3))⟩,
      ⟨some 199, none, .pickb (.t 196) (.t 198) (.c (.bool false))⟩,
      ⟨some 200, none, .mov (.t 199)⟩,
      ⟨some 201, some (200, true), .load 4 true (.t 21)⟩,
      ⟨some 202, some (200, true), .blit 0 5 1 [.c (.int .u8 9)]⟩,
      ⟨some 203, some (200, true), .build [.int .i64 0, .int .i64 0, .int .u64 0, .nil] [(0, 1, .c (.int .i64 2)), (1, 1, .c (.int .i64 2)), (3, 1, .t 202)]⟩,
      ⟨some 204, some (200, true), .call i_cartoucheref1_Same [.t 201, .t 203]⟩,
      ⟨some 205, none, .pickb (.t 200) (.t 204) (.c (.bool false))⟩,
      ⟨some 206, none, .mov (.t 205)⟩,
      ⟨some 207, some (206, true), .mov (.t 11)⟩,
      ⟨some 208, some (206, true), .bin false .eql (.t 207) (.c (.int .i64 0))⟩,
      ⟨some 209, none, .pickb (.t 206) (.t 208) (.c (.bool false))⟩,
      ⟨some 210, none, .mov (.t 209)⟩,
      ⟨some 211, some (210, true), .mov (.t 23)⟩,
      ⟨some 212, some (210, true), .build [.int .i64 0, .int .i64 0, .int .u64 0, .nil] [(0, 1, .c (.int .i64 1)), (2, 1, .c (.int .u64 1))]⟩,
      ⟨some 213, some (210, true), .build [.int .i64 0, .int .i64 0, .int .u64 0, .nil] [(0, 1, .c (.int .i64 2)), (1, 1, .c (.int .i64 2))]⟩,
      ⟨some 214, some (210, true), .blit 0 60 4 [.t 212, .t 213]⟩,
      ⟨some 215, some (210, true), .call i_cartoucheref1_List [.t 211, .t 214]⟩,
      ⟨some 216, none, .pickb (.t 210) (.t 215) (.c (.bool false))⟩,
      ⟨some 217, none, .mov (.t 216)⟩,
      ⟨some 218, some (217, true), .mov (.t 15)⟩,
      ⟨some 219, some (217, true), .bin false .eql (.t 218) (.c (.int .i64 3))⟩,
      ⟨some 220, none, .pickb (.t 217) (.t 219) (.c (.bool false))⟩,
      ⟨some 0, none, .mov (.t 220)⟩])
    .ret))))))))))))))))))), [.tmp 0]⟩
theorem T_cartouchelaw1_WireKnown : trFn Try.prog [(1, [1, 0]), (2, [1, 0]), (3, [0, 0, 0, 0, 1, 0, 0, 0, 0, 0, 0, 0, 0, 0, 0, 0, 0, 0, 0, 1, 0, 0, 0, 0, 0, 0, 0, 0, 0, 1, 0, 0, 0, 0, 1, 0, 0, 0, 0, 1, 0, 0, 0]), (5, [0, 0, 0, 0, 0, 0, 0, 0, 0, 0, 0, 0, 0, 0, 0, 0, 1, 0, 0, 0]), (7, [1, 0, 0, 0, 0, 0, 0, 0, 0]), (8, [1, 0, 0, 0, 0, 0, 0, 0, 0]), (9, [0, 0, 0, 0, 0, 0, 0, 1, 0, 1, 0, 0, 0]), (14, [1, 0, 0, 0, 0, 0, 0, 0, 0, 0, 0]), (15, [1, 0, 0, 0, 0, 0, 0, 0, 0, 0, 0]), (16, [0, 0, 0, 0, 1, 0, 0, 0, 0, 0, 0, 0, 0, 0, 0, 0, 0, 0, 0, 0, 0, 0, 0, 0]), (19, [1, 0, 0, 0, 0, 0, 1, 0, 0, 0]), (20, [1, 0, 0, 0, 0, 0, 0]), (21, [1, 0, 0, 0, 0, 0]), (22, [0, 0, 0, 0, 1, 0, 0, 0, 0, 0, 0, 0, 0, 0, 0, 0, 0, 1, 0, 0, 0, 0, 0, 0, 0, 0, 0, 0, 0, 1, 0, 0, 0, 0, 0, 0, 0])] Try.f8 = some A_cartouchelaw1_WireKnown := by kernel_rfl
theorem L_cartouchelaw1_WireKnown : 0 ≤ Try.f8.ntmps := by decide

/-! cartouche/wire.GetVarint -/
def A_wire_GetVarint : AFn := ⟨(.seq (.region [⟨some 4, none, .mov (.c (.int .u64 0))⟩,
      ⟨some 5, none, .mov (.c (.int .i64 0))⟩,
      ⟨some 6, none, .mov (.c (.int .i64 0))⟩])
    (.scope (.seq (.seq (.region [⟨some 9, none, .mov (.t 0)⟩,
      ⟨some 10, none, .mov (.t 1)⟩,
      ⟨some 11, none, .call i_wire_place [.t 9, .t 10]⟩,
      ⟨some 12, none, .un .not (.t 11)⟩])
    (.cond (.t 12) (.seq (.region [⟨some 4, none, .mov (.c (.int .u64 0))⟩,
      ⟨some 5, none, .mov (.c (.int .i64 0))⟩,
      ⟨some 6, none, .mov (.c (.int .i64 18))⟩])
    .ret)
    .skip))
    (.seq .label
    (.seq (.seq (.region [⟨some 13, none, .mov (.c (.int .i64 0))⟩])
    (.block 0 (.loop (.seq (.region [⟨some 14, none, .bin false .lss (.t 13) (.c (.int .i64 10))⟩])
    (.seq (.cond (.t 14) .skip
    (.exit 0))
    (.seq (.block 1 (.seq (.region [⟨some 15, none, .mov (.t 13)⟩,
      ⟨some 7, none, .mov (.t 15)⟩])
    (.seq (.seq (.region [⟨some 16, none, .mov (.t 1)⟩,
      ⟨some 17, none, .mov (.t 7)⟩,
      ⟨some 18, none, .bin false .add (.t 16) (.t 17)⟩,
      ⟨some 19, none, .mov (.t 0)⟩,
      ⟨some 20, none, .len false (.t 19)⟩,
      ⟨some 21, none, .bin false .eql (.t 18) (.t 20)⟩])
    (.cond (.t 21) (.exit 0)
    .skip))
    (.seq (.region [⟨some 22, none, .mov (.t 0)⟩,
      ⟨some 23, none, .mov (.t 1)⟩,
      ⟨some 24, none, .mov (.t 7)⟩,
      ⟨some 25, none, .bin false .add (.t 23) (.t 24)⟩,
      ⟨some 26, none, .idxA 1 (.t 22) (.t 25)⟩,
      ⟨some 27, none, .load 1 false (.t 26)⟩,
      ⟨some 8, none, .mov (.t 27)⟩])
    (.seq (.seq (.region [⟨some 28, none, .mov (.t 7)⟩,
      ⟨some 29, none, .bin false .eql (.t 28) (.c (.int .i64 9))⟩,
      ⟨some 30, none, .mov (.t 29)⟩,
      ⟨some 31, some (30, true), .mov (.t 8)⟩,
      ⟨some 32, some (30, true), .bin false .gtr (.t 31) (.c (.int .u8 1))⟩,
      ⟨some 33, none, .pickb (.t 30) (.t 32) (.c (.bool false))⟩])
    (.cond (.t 33) (.seq (.region [⟨some 4, none, .mov (.c (.int .u64 0))⟩,
      ⟨some 5, none, .mov (.c (.int .i64 0))⟩,
      ⟨some 6, none, .mov (.c (.int .i64 4))⟩])
    .ret)
    .skip))
    (.seq (.region [⟨some 34, none, .mov (.t 4)⟩,
      ⟨some 35, none, .mov (.t 8)⟩,
      ⟨some 36, none, .bin false .and (.t 35) (.c (.int .u8 127))⟩,
      ⟨some 37, none, .conv .u64 (.t 36)⟩,
      ⟨some 38, none, .mov (.t 7)⟩,
      ⟨some 39, none, .bin false .mul (.c (.int .i64 7)) (.t 38)⟩,
      ⟨some 40, none, .bin false .shl (.t 37) (.t 39)⟩,
      ⟨some 41, none, .bin false .or (.t 34) (.t 40)⟩,
      ⟨some 4, none, .mov (.t 41)⟩])
    (.seq (.region [⟨some 42, none, .mov (.t 8)⟩,
      ⟨some 43, none, .bin false .lss (.t 42) (.c (.int .u8 128))⟩])
    (.cond (.t 43) (.seq (.region [⟨some 44, none, .mov (.t 4)⟩,
      ⟨some 45, none, .mov (.t 1)⟩,
      ⟨some 46, none, .mov (.t 7)⟩,
      ⟨some 47, none, .bin false .add (.t 45) (.t 46)⟩,
      ⟨some 48, none, .bin false .add (.t 47) (.c (.int .i64 1))⟩,
      ⟨some 4, none, .mov (.t 44)⟩,
      ⟨some 5, none, .mov (.t 48)⟩,
      ⟨some 6, none, .mov (.c (.int .i64 0))⟩])
    .ret)
    .skip))))))))
    (.region [⟨some 49, none, .bin false .add (.t 13) (.c (.int .i64 1))⟩,
      ⟨some 13, none, .mov (.t 49)⟩])))))))
    (.seq (.region [⟨some 4, none, .mov (.c (.int .u64 0))⟩,
      ⟨some 5, none, .mov (.c (.int .i64 0))⟩,
      ⟨some 6, none, .mov (.c (.int .i64 3))⟩])
    .ret)))))), [.tmp 4, .tmp 5, .tmp 6]⟩
theorem T_wire_GetVarint : trFn Try.prog [] Try.f11 = some A_wire_GetVarint := by kernel_rfl
theorem L_wire_GetVarint : 2 ≤ Try.f11.ntmps := by decide

/-! cartouche/cartouchelaw1.awake -/
def A_cartouchelaw1_awake : AFn := ⟨(.seq (.region [⟨some 0, none, .mov (.c (.bool false))⟩])
    (.seq (.region [⟨some 5, none, .blit 0 5 1 [.c (.int .u8 172), .c (.int .u8 2), .c (.int .u8 9)]⟩,
      ⟨some 6, none, .call i_wire_GetVarint [.t 5, .c (.int .i64 0)]⟩,
      ⟨some 4, none, .mov (.t 6)⟩,
      ⟨some 7, none, .ext 0 (.t 4)⟩,
      ⟨some 8, none, .ext 1 (.t 4)⟩,
      ⟨some 9, none, .ext 2 (.t 4)⟩,
      ⟨some 1, none, .mov (.t 7)⟩,
      ⟨some 2, none, .mov (.t 8)⟩,
      ⟨some 3, none, .mov (.t 9)⟩])
    (.seq (.region [⟨some 10, none, .call i_wire_PutVarint [.c (.int .u64 300)]⟩,
      ⟨some 11, none, .blit 0 5 1 [.c (.int .u8 172), .c (.int .u8 2)]⟩,
      ⟨some 12, none, .call i_cartouchelaw1_same [.t 10, .t 11]⟩,
      ⟨some 13, none, .mov (.t 12)⟩,
      ⟨some 14, some (13, true), .mov (.t 1)⟩,
      ⟨some 15, some (13, true), .bin false .eql (.t 14) (.c (.int .u64 300))⟩,
      ⟨some 16, none, .pickb (.t 13) (.t 15) (.c (.bool false))⟩,
      ⟨some 17, none, .mov (.t 16)⟩,
      ⟨some 18, some (17, true), .mov (.t 2)⟩,
      ⟨some 19, some (17, true), .bin false .eql (.t 18) (.c (.int .i64 2))⟩,
      ⟨some 20, none, .pickb (.t 17) (.t 19) (.c (.bool false))⟩,
      ⟨some 21, none, .mov (.t 20)⟩,
      ⟨some 22, some (21, true), .mov (.t 3)⟩,
      ⟨some 23, some (21, true), .bin false .eql (.t 22) (.c (.int .i64 0))⟩,
      ⟨some 24, none, .pickb (.t 21) (.t 23) (.c (.bool false))⟩,
      ⟨some 0, none, .mov (.t 24)⟩])
    .ret))), [.tmp 0]⟩
theorem T_cartouchelaw1_awake : trFn Try.prog [(1, [1, 0, 0, 0, 0, 0, 0, 0, 0]), (2, [0, 1, 0, 0, 0, 0, 0, 0, 0, 0, 0, 0, 0, 0, 0, 0])] Try.f13 = some A_cartouchelaw1_awake := by kernel_rfl
theorem L_cartouchelaw1_awake : 0 ≤ Try.f13.ntmps := by decide

/-! cartouche/cartouchelaw1.same -/
def A_cartouchelaw1_same : AFn := ⟨(.seq (.region [⟨some 4, none, .mov (.c (.bool false))⟩])
    (.seq (.region [⟨some 5, none, .mov (.t 0)⟩,
      ⟨some 6, none, .b2s (.t 5)⟩,
      ⟨some 7, none, .mov (.t 1)⟩,
      ⟨some 8, none, .b2s (.t 7)⟩,
      ⟨some 9, none, .bin false .eql (.t 6) (.t 8)⟩,
      ⟨some 4, none, .mov (.t 9)⟩])
    .ret)), [.tmp 4]⟩
theorem T_cartouchelaw1_same : trFn Try.prog [] Try.f14 = some A_cartouchelaw1_same := by kernel_rfl
theorem L_cartouchelaw1_same : 2 ≤ Try.f14.ntmps := by decide

/-! cartouche/wire.PutVarint -/
def A_wire_PutVarint : AFn := ⟨(.seq (.region [⟨some 2, none, .mov (.c (.nil))⟩])
    (.seq (.region [⟨some 3, none, .mov (.t 0)⟩,
      ⟨some 4, none, .call i_wire_Size [.t 3]⟩,
      ⟨some 5, none, .mks 0 5 1 1 (.int .u8 0) (.c (.int .i64 0)) (.t 4)⟩,
      ⟨some 6, none, .mov (.t 0)⟩,
      ⟨some 7, none, .call i_wire_varint [.t 5, .t 6]⟩,
      ⟨some 2, none, .mov (.t 7)⟩])
    .ret)), [.tmp 2]⟩
theorem T_wire_PutVarint : trFn Try.prog [] Try.f15 = some A_wire_PutVarint := by kernel_rfl
theorem L_wire_PutVarint : 1 ≤ Try.f15.ntmps := by decide

/-! cartouche/wire.Size -/
def A_wire_Size : AFn := ⟨(.seq (.region [⟨some 2, none, .mov (.c (.int .i64 0))⟩])
    (.seq (.region [⟨some 3, none, .mov (.t 0)⟩,
      ⟨some 4, none, .call i_bits_Len64 [.t 3]⟩,
      ⟨some 5, none, .mm true (.c (.int .i64 1)) (.t 4)⟩,
      ⟨some 6, none, .bin false .add (.t 5) (.c (.int .i64 7))⟩,
      ⟨some 7, none, .bin false .sub (.t 6) (.c (.int .i64 1))⟩,
      ⟨some 8, none, .bin false .quo (.t 7) (.c (.int .i64 7))⟩,
      ⟨some 2, none, .mov (.t 8)⟩])
    .ret)), [.tmp 2]⟩
theorem T_wire_Size : trFn Try.prog [] Try.f16 = some A_wire_Size := by kernel_rfl
theorem L_wire_Size : 1 ≤ Try.f16.ntmps := by decide

/-! cartouche/wire.ZigZag -/
def A_wire_ZigZag : AFn := ⟨(.seq (.region [⟨some 2, none, .mov (.c (.int .u64 0))⟩])
    (.seq (.region [⟨some 3, none, .mov (.t 0)⟩,
      ⟨some 4, none, .conv .u64 (.t 3)⟩,
      ⟨some 5, none, .bin false .shl (.t 4) (.c (.int .u64 1))⟩,
      ⟨some 6, none, .mov (.t 0)⟩,
      ⟨some 7, none, .bin false .shr (.t 6) (.c (.int .u64 63))⟩,
      ⟨some 8, none, .conv .u64 (.t 7)⟩,
      ⟨some 9, none, .bin false .xor (.t 5) (.t 8)⟩,
      ⟨some 2, none, .mov (.t 9)⟩])
    .ret)), [.tmp 2]⟩
theorem T_wire_ZigZag : trFn Try.prog [] Try.f17 = some A_wire_ZigZag := by kernel_rfl
theorem L_wire_ZigZag : 1 ≤ Try.f17.ntmps := by decide

/-! cartouche/wire.ZagZig -/
def A_wire_ZagZig : AFn := ⟨(.seq (.region [⟨some 2, none, .mov (.c (.int .i64 0))⟩])
    (.seq (.region [⟨some 3, none, .mov (.t 0)⟩,
      ⟨some 4, none, .bin false .shr (.t 3) (.c (.int .u64 1))⟩,
      ⟨some 5, none, .conv .i64 (.t 4)⟩,
      ⟨some 6, none, .mov (.t 0)⟩,
      ⟨some 7, none, .bin false .and (.t 6) (.c (.int .u64 1))⟩,
      ⟨some 8, none, .conv .i64 (.t 7)⟩,
      ⟨some 9, none, .un .neg (.t 8)⟩,
      ⟨some 10, none, .bin false .xor (.t 5) (.t 9)⟩,
      ⟨some 2, none, .mov (.t 10)⟩])
    .ret)), [.tmp 2]⟩
theorem T_wire_ZagZig : trFn Try.prog [] Try.f19 = some A_wire_ZagZig := by kernel_rfl
theorem L_wire_ZagZig : 1 ≤ Try.f19.ntmps := by decide

/-! cartouche/wire.PutTag -/
def A_wire_PutTag : AFn := ⟨(.seq (.region [⟨some 4, none, .mov (.c (.nil))⟩,
      ⟨some 5, none, .mov (.c (.int .i64 0))⟩])
    (.seq (.block 0 (.seq (.region [⟨some 7, none, .mov (.t 0)⟩,
      ⟨some 8, none, .bin false .lss (.t 7) (.c (.int .i64 1))⟩,
      ⟨some 9, none, .mov (.t 8)⟩,
      ⟨some 10, some (9, false), .mov (.t 0)⟩,
      ⟨some 11, some (9, false), .bin false .gtr (.t 10) (.c (.int .i64 536870911))⟩,
      ⟨some 12, none, .pickb (.t 9) (.c (.bool true)) (.t 11)⟩,
      ⟨some 6, none, .mov (.t 12)⟩])
    (.cond (.t 6) (.seq (.region [⟨some 4, none, .mov (.c (.nil))⟩,
      ⟨some 5, none, .mov (.c (.int .i64 5))⟩])
    .ret)
    (.seq (.region [⟨some 14, none, .mov (.t 1)⟩,
      ⟨some 15, none, .call i_wire_isKind [.t 14]⟩,
      ⟨some 16, none, .un .not (.t 15)⟩,
      ⟨some 13, none, .mov (.t 16)⟩])
    (.cond (.t 13) (.seq (.region [⟨some 4, none, .mov (.c (.nil))⟩,
      ⟨some 5, none, .mov (.c (.int .i64 6))⟩])
    .ret)
    .skip)))))
    (.seq (.region [⟨some 17, none, .mov (.t 0)⟩,
      ⟨some 18, none, .conv .u64 (.t 17)⟩,
      ⟨some 19, none, .bin false .mul (.t 18) (.c (.int .u64 8))⟩,
      ⟨some 20, none, .mov (.t 1)⟩,
      ⟨some 21, none, .conv .u64 (.t 20)⟩,
      ⟨some 22, none, .bin false .add (.t 19) (.t 21)⟩,
      ⟨some 23, none, .call i_wire_PutVarint [.t 22]⟩,
      ⟨some 4, none, .mov (.t 23)⟩,
      ⟨some 5, none, .mov (.c (.int .i64 0))⟩])
    .ret))), [.tmp 4, .tmp 5]⟩
theorem T_wire_PutTag : trFn Try.prog [] Try.f22 = some A_wire_PutTag := by kernel_rfl
theorem L_wire_PutTag : 2 ≤ Try.f22.ntmps := by decide

/-! cartouche/wire.GetTag -/
def A_wire_GetTag : AFn := ⟨(.seq (.region [⟨some 4, none, .mov (.c (.int .i64 0))⟩,
      ⟨some 5, none, .mov (.c (.int .i64 0))⟩,
      ⟨some 6, none, .mov (.c (.int .i64 0))⟩,
      ⟨some 7, none, .mov (.c (.int .i64 0))⟩])
    (.seq (.region [⟨some 10, none, .mov (.t 0)⟩,
      ⟨some 11, none, .mov (.t 1)⟩,
      ⟨some 12, none, .call i_wire_GetVarint [.t 10, .t 11]⟩,
      ⟨some 9, none, .mov (.t 12)⟩,
      ⟨some 13, none, .ext 0 (.t 9)⟩,
      ⟨some 14, none, .ext 1 (.t 9)⟩,
      ⟨some 15, none, .ext 2 (.t 9)⟩,
      ⟨some 8, none, .mov (.t 13)⟩,
      ⟨some 6, none, .mov (.t 14)⟩,
      ⟨some 7, none, .mov (.t 15)⟩])
    (.seq (.block 0 (.seq (.region [⟨some 17, none, .mov (.t 7)⟩,
      ⟨some 18, none, .bin false .neq (.t 17) (.c (.int .i64 0))⟩,
      ⟨some 16, none, .mov (.t 18)⟩])
    (.cond (.t 16) (.seq (.region [⟨some 19, none, .mov (.t 7)⟩,
      ⟨some 4, none, .mov (.c (.int .i64 0))⟩,
      ⟨some 5, none, .mov (.c (.int .i64 0))⟩,
      ⟨some 6, none, .mov (.c (.int .i64 0))⟩,
      ⟨some 7, none, .mov (.t 19)⟩])
    .ret)
    (.seq (.region [⟨some 21, none, .mov (.t 8)⟩,
      ⟨some 22, none, .bin false .quo (.t 21) (.c (.int .u64 8))⟩,
      ⟨some 23, none, .bin false .eql (.t 22) (.c (.int .u64 0))⟩,
      ⟨some 24, none, .mov (.t 23)⟩,
      ⟨some 25, some (24, false), .mov (.t 8)⟩,
      ⟨some 26, some (24, false), .bin false .quo (.t 25) (.c (.int .u64 8))⟩,
      ⟨some 27, some (24, false), .bin false .gtr (.t 26) (.c (.int .u64 536870911))⟩,
      ⟨some 28, none, .pickb (.t 24) (.c (.bool true)) (.t 27)⟩,
      ⟨some 20, none, .mov (.t 28)⟩])
    (.cond (.t 20) (.seq (.region [⟨some 4, none, .mov (.c (.int .i64 0))⟩,
      ⟨some 5, none, .mov (.c (.int .i64 0))⟩,
      ⟨some 6, none, .mov (.c (.int .i64 0))⟩,
      ⟨some 7, none, .mov (.c (.int .i64 5))⟩])
    .ret)
    (.seq (.region [⟨some 30, none, .mov (.t 8)⟩,
      ⟨some 31, none, .bin false .rem (.t 30) (.c (.int .u64 8))⟩,
      ⟨some 32, none, .conv .i64 (.t 31)⟩,
      ⟨some 33, none, .call i_wire_isKind [.t 32]⟩,
      ⟨some 34, none, .un .not (.t 33)⟩,
      ⟨some 29, none, .mov (.t 34)⟩])
    (.cond (.t 29) (.seq (.region [⟨some 4, none, .mov (.c (.int .i64 0))⟩,
      ⟨some 5, none, .mov (.c (.int .i64 0))⟩,
      ⟨some 6, none, .mov (.c (.int .i64 0))⟩,
      ⟨some 7, none, .mov (.c (.int .i64 6))⟩])
    .ret)
    .skip)))))))
    (.seq (.region [⟨some 35, none, .mov (.t 8)⟩,
      ⟨some 36, none, .bin false .quo (.t 35) (.c (.int .u64 8))⟩,
      ⟨some 37, none, .conv .i64 (.t 36)⟩,
      ⟨some 38, none, .mov (.t 8)⟩,
      ⟨some 39, none, .bin false .rem (.t 38) (.c (.int .u64 8))⟩,
      ⟨some 40, none, .conv .i64 (.t 39)⟩,
      ⟨some 41, none, .mov (.t 6)⟩,
      ⟨some 4, none, .mov (.t 37)⟩,
      ⟨some 5, none, .mov (.t 40)⟩,
      ⟨some 6, none, .mov (.t 41)⟩,
      ⟨some 7, none, .mov (.c (.int .i64 0))⟩])
    .ret)))), [.tmp 4, .tmp 5, .tmp 6, .tmp 7]⟩
theorem T_wire_GetTag : trFn Try.prog [] Try.f23 = some A_wire_GetTag := by kernel_rfl
theorem L_wire_GetTag : 2 ≤ Try.f23.ntmps := by decide

/-! cartouche/wire.GetFix32 -/
def A_wire_GetFix32 : AFn := ⟨(.seq (.region [⟨some 4, none, .mov (.c (.int .u32 0))⟩,
      ⟨some 5, none, .mov (.c (.int .i64 0))⟩,
      ⟨some 6, none, .mov (.c (.int .i64 0))⟩])
    (.seq (.region [⟨some 9, none, .mov (.t 0)⟩,
      ⟨some 10, none, .mov (.t 1)⟩,
      ⟨some 11, none, .call i_wire_read [.t 9, .t 10, .c (.int .i64 4)]⟩,
      ⟨some 8, none, .mov (.t 11)⟩,
      ⟨some 12, none, .ext 0 (.t 8)⟩,
      ⟨some 13, none, .ext 1 (.t 8)⟩,
      ⟨some 14, none, .ext 2 (.t 8)⟩,
      ⟨some 7, none, .mov (.t 12)⟩,
      ⟨some 5, none, .mov (.t 13)⟩,
      ⟨some 6, none, .mov (.t 14)⟩])
    (.seq (.region [⟨some 15, none, .mov (.t 7)⟩,
      ⟨some 16, none, .conv .u32 (.t 15)⟩,
      ⟨some 17, none, .mov (.t 5)⟩,
      ⟨some 18, none, .mov (.t 6)⟩,
      ⟨some 4, none, .mov (.t 16)⟩,
      ⟨some 5, none, .mov (.t 17)⟩,
      ⟨some 6, none, .mov (.t 18)⟩])
    .ret))), [.tmp 4, .tmp 5, .tmp 6]⟩
theorem T_wire_GetFix32 : trFn Try.prog [] Try.f26 = some A_wire_GetFix32 := by kernel_rfl
theorem L_wire_GetFix32 : 2 ≤ Try.f26.ntmps := by decide

/-! cartouche/wire.GetChunk -/
def A_wire_GetChunk : AFn := ⟨(.seq (.region [⟨some 4, none, .mov (.c (.nil))⟩,
      ⟨some 5, none, .mov (.c (.int .i64 0))⟩,
      ⟨some 6, none, .mov (.c (.int .i64 0))⟩])
    (.seq (.region [⟨some 10, none, .mov (.t 0)⟩,
      ⟨some 11, none, .mov (.t 1)⟩,
      ⟨some 12, none, .call i_wire_Span [.t 10, .t 11]⟩,
      ⟨some 9, none, .mov (.t 12)⟩,
      ⟨some 13, none, .ext 0 (.t 9)⟩,
      ⟨some 14, none, .ext 1 (.t 9)⟩,
      ⟨some 15, none, .ext 2 (.t 9)⟩,
      ⟨some 7, none, .mov (.t 13)⟩,
      ⟨some 8, none, .mov (.t 14)⟩,
      ⟨some 6, none, .mov (.t 15)⟩])
    (.seq (.seq (.region [⟨some 16, none, .mov (.t 6)⟩,
      ⟨some 17, none, .bin false .neq (.t 16) (.c (.int .i64 0))⟩])
    (.cond (.t 17) (.seq (.region [⟨some 18, none, .mov (.t 6)⟩,
      ⟨some 4, none, .mov (.c (.nil))⟩,
      ⟨some 5, none, .mov (.c (.int .i64 0))⟩,
      ⟨some 6, none, .mov (.t 18)⟩])
    .ret)
    .skip))
    (.seq (.draw [3, 8] [⟨some 19, none, .mov (.t 8)⟩,
      ⟨some 20, none, .mov (.t 7)⟩,
      ⟨some 21, none, .bin false .sub (.t 19) (.t 20)⟩,
      ⟨some 22, none, .mks 0 5 1 1 (.int .u8 0) (.c (.int .i64 0)) (.t 21)⟩,
      ⟨some 23, none, .mov (.t 0)⟩,
      ⟨some 24, none, .mov (.t 7)⟩,
      ⟨some 25, none, .mov (.t 8)⟩,
      ⟨some 26, none, .slc 1 (.t 23) (some (.t 24)) (some (.t 25)) none⟩,
      ⟨some 27, none, .app 0 5 1 1 (.t 22) (.t 26)⟩,
      ⟨some 28, none, .mov (.t 8)⟩,
      ⟨some 4, none, .mov (.t 27)⟩,
      ⟨some 5, none, .mov (.t 28)⟩,
      ⟨some 6, none, .mov (.c (.int .i64 0))⟩])
    .ret)))), [.tmp 4, .tmp 5, .tmp 6]⟩
theorem T_wire_GetChunk : trFn Try.prog [(1000004, [3, 8])] Try.f28 = some A_wire_GetChunk := by kernel_rfl
theorem L_wire_GetChunk : 2 ≤ Try.f28.ntmps := by decide

/-! cartouche/wire.PutFix32 -/
def A_wire_PutFix32 : AFn := ⟨(.seq (.region [⟨some 2, none, .mov (.c (.nil))⟩])
    (.seq (.region [⟨some 3, none, .mov (.t 0)⟩,
      ⟨some 4, none, .conv .u64 (.t 3)⟩,
      ⟨some 5, none, .call i_wire_word [.t 4, .c (.int .i64 4)]⟩,
      ⟨some 2, none, .mov (.t 5)⟩])
    .ret)), [.tmp 2]⟩
theorem T_wire_PutFix32 : trFn Try.prog [] Try.f29 = some A_wire_PutFix32 := by kernel_rfl
theorem L_wire_PutFix32 : 1 ≤ Try.f29.ntmps := by decide

/-! cartouche/wire.PutChunk -/
def A_wire_PutChunk : AFn := ⟨(.seq (.region [⟨some 2, none, .mov (.c (.nil))⟩])
    (.seq (.region [⟨some 4, none, .mov (.t 0)⟩,
      ⟨some 5, none, .len false (.t 4)⟩,
      ⟨some 6, none, .conv .u64 (.t 5)⟩,
      ⟨some 3, none, .mov (.t 6)⟩])
    (.seq (.region [⟨some 7, none, .mov (.t 3)⟩,
      ⟨some 8, none, .call i_wire_Size [.t 7]⟩,
      ⟨some 9, none, .mov (.t 0)⟩,
      ⟨some 10, none, .len false (.t 9)⟩,
      ⟨some 11, none, .bin false .add (.t 8) (.t 10)⟩,
      ⟨some 12, none, .mks 0 5 1 1 (.int .u8 0) (.c (.int .i64 0)) (.t 11)⟩,
      ⟨some 13, none, .mov (.t 3)⟩,
      ⟨some 14, none, .call i_wire_varint [.t 12, .t 13]⟩,
      ⟨some 15, none, .mov (.t 0)⟩,
      ⟨some 16, none, .app 0 5 1 1 (.t 14) (.t 15)⟩,
      ⟨some 2, none, .mov (.t 16)⟩])
    .ret))), [.tmp 2]⟩
theorem T_wire_PutChunk : trFn Try.prog [] Try.f32 = some A_wire_PutChunk := by kernel_rfl
theorem L_wire_PutChunk : 1 ≤ Try.f32.ntmps := by decide

/-! cartouche/wire.Split -/
def A_wire_Split : AFn := ⟨(.seq (.region [⟨some 2, none, .mov (.c (.nil))⟩,
      ⟨some 3, none, .mov (.c (.int .i64 0))⟩])
    (.seq (.region [⟨some 4, none, .mov (.c (.nil))⟩])
    (.seq (.seq (.region [⟨some 5, none, .mov (.c (.int .i64 0))⟩])
    (.block 0 (.loop (.seq (.seq (.region [⟨some 9, none, .mov (.t 5)⟩,
      ⟨some 10, none, .mov (.t 0)⟩,
      ⟨some 11, none, .len false (.t 10)⟩,
      ⟨some 12, none, .bin false .lss (.t 9) (.t 11)⟩])
    (.cond (.t 12) .skip
    (.exit 0)))
    (.block 1 (.seq (.region [⟨some 14, none, .mov (.t 0)⟩,
      ⟨some 15, none, .mov (.t 5)⟩,
      ⟨some 16, none, .call i_wire_GetEntry [.t 14, .t 15]⟩,
      ⟨some 13, none, .mov (.t 16)⟩,
      ⟨some 17, none, .ext 0 (.t 13)⟩,
      ⟨some 18, none, .ext 1 (.t 13)⟩,
      ⟨some 19, none, .ext 2 (.t 13)⟩,
      ⟨some 6, none, .alloc 0 [.int .i64 0, .int .i64 0, .int .u64 0, .nil]⟩,
      ⟨none, none, .store 4 (.t 6) (.t 17)⟩,
      ⟨some 7, none, .mov (.t 18)⟩,
      ⟨some 8, none, .mov (.t 19)⟩])
    (.seq (.seq (.region [⟨some 20, none, .mov (.t 8)⟩,
      ⟨some 21, none, .bin false .neq (.t 20) (.c (.int .i64 0))⟩])
    (.cond (.t 21) (.seq (.region [⟨some 22, none, .mov (.t 8)⟩,
      ⟨some 2, none, .mov (.c (.nil))⟩,
      ⟨some 3, none, .mov (.t 22)⟩])
    .ret)
    .skip))
    (.region [⟨some 23, none, .mov (.t 4)⟩,
      ⟨some 24, none, .load 4 true (.t 6)⟩,
      ⟨some 25, none, .blit 0 60 4 [.t 24]⟩,
      ⟨some 26, none, .app 0 60 4 48 (.t 23) (.t 25)⟩,
      ⟨some 27, none, .mov (.t 7)⟩,
      ⟨some 4, none, .mov (.t 26)⟩,
      ⟨some 5, none, .mov (.t 27)⟩]))))))))
    (.seq (.region [⟨some 28, none, .mov (.t 4)⟩,
      ⟨some 29, none, .len false (.t 28)⟩,
      ⟨some 30, none, .mks 0 60 4 48 (.agg [.int .i64 0, .int .i64 0, .int .u64 0, .nil]) (.c (.int .i64 0)) (.t 29)⟩,
      ⟨some 31, none, .mov (.t 4)⟩,
      ⟨some 32, none, .app 0 60 4 48 (.t 30) (.t 31)⟩,
      ⟨some 2, none, .mov (.t 32)⟩,
      ⟨some 3, none, .mov (.c (.int .i64 0))⟩])
    .ret)))), [.tmp 2, .tmp 3]⟩
theorem T_wire_Split : trFn Try.prog [(4, [0, 0, 0, 0, 0, 0, 0, 1, 0, 0, 0]), (7, [0, 0, 1, 0, 0, 0, 0])] Try.f36 = some A_wire_Split := by kernel_rfl
theorem L_wire_Split : 1 ≤ Try.f36.ntmps := by decide

/-! cartouche/cartoucheref1.List -/
def A_cartoucheref1_List : AFn := ⟨(.seq (.region [⟨some 4, none, .mov (.c (.bool false))⟩])
    (.seq (.seq (.region [⟨some 6, none, .mov (.t 0)⟩,
      ⟨some 7, none, .len false (.t 6)⟩,
      ⟨some 8, none, .mov (.t 1)⟩,
      ⟨some 9, none, .len false (.t 8)⟩,
      ⟨some 10, none, .bin false .neq (.t 7) (.t 9)⟩])
    (.cond (.t 10) (.seq (.region [⟨some 4, none, .mov (.c (.bool false))⟩])
    .ret)
    .skip))
    (.seq (.seq (.region [⟨some 5, none, .mov (.c (.int .i64 0))⟩])
    (.block 0 (.loop (.seq (.seq (.region [⟨some 11, none, .mov (.t 5)⟩,
      ⟨some 12, none, .mov (.t 0)⟩,
      ⟨some 13, none, .len false (.t 12)⟩,
      ⟨some 14, none, .bin false .lss (.t 11) (.t 13)⟩])
    (.cond (.t 14) .skip
    (.exit 0)))
    (.seq (.block 1 (.seq (.draw [2, 3, 8] [⟨some 17, none, .mov (.t 0)⟩,
      ⟨some 18, none, .mov (.t 5)⟩,
      ⟨some 19, none, .idxA 4 (.t 17) (.t 18)⟩,
      ⟨some 20, none, .load 4 true (.t 19)⟩,
      ⟨some 21, none, .mov (.t 1)⟩,
      ⟨some 22, none, .mov (.t 5)⟩,
      ⟨some 23, none, .idxA 4 (.t 21) (.t 22)⟩,
      ⟨some 24, none, .load 4 true (.t 23)⟩,
      ⟨some 25, none, .call i_cartoucheref1_Same [.t 20, .t 24]⟩,
      ⟨some 26, none, .un .not (.t 25)⟩])
    (.cond (.t 26) (.seq (.region [⟨some 4, none, .mov (.c (.bool false))⟩])
    .ret)
    .skip)))
    (.region [⟨some 15, none, .mov (.t 5)⟩,
      ⟨some 16, none, .bin false .add (.t 15) (.c (.int .i64 1))⟩,
      ⟨some 5, none, .mov (.t 16)⟩]))))))
    (.seq (.region [⟨some 4, none, .mov (.c (.bool true))⟩])
    .ret)))), [.tmp 4]⟩
theorem T_cartoucheref1_List : trFn Try.prog [(1000006, [2, 3, 8])] Try.f37 = some A_cartoucheref1_List := by kernel_rfl
theorem L_cartoucheref1_List : 2 ≤ Try.f37.ntmps := by decide

/-! cartouche/wire.PutEntry -/
def A_wire_PutEntry : AFn := ⟨(.seq (.region [⟨some 1, none, .box 0 (.t 0)⟩,
      ⟨some 2, none, .mov (.c (.nil))⟩,
      ⟨some 3, none, .mov (.c (.int .i64 0))⟩])
    (.seq (.region [⟨some 7, none, .fldA 0 1 false (.t 1)⟩,
      ⟨some 8, none, .load 1 false (.t 7)⟩,
      ⟨some 9, none, .fldA 1 1 false (.t 1)⟩,
      ⟨some 10, none, .load 1 false (.t 9)⟩,
      ⟨some 11, none, .call i_wire_PutTag [.t 8, .t 10]⟩,
      ⟨some 6, none, .mov (.t 11)⟩,
      ⟨some 12, none, .ext 0 (.t 6)⟩,
      ⟨some 13, none, .ext 1 (.t 6)⟩,
      ⟨some 4, none, .mov (.t 12)⟩,
      ⟨some 5, none, .mov (.t 13)⟩])
    (.seq (.block 0 (.seq (.region [⟨some 15, none, .mov (.t 5)⟩,
      ⟨some 16, none, .bin false .neq (.t 15) (.c (.int .i64 0))⟩,
      ⟨some 14, none, .mov (.t 16)⟩])
    (.cond (.t 14) (.seq (.region [⟨some 17, none, .mov (.t 5)⟩,
      ⟨some 2, none, .mov (.c (.nil))⟩,
      ⟨some 3, none, .mov (.t 17)⟩])
    .ret)
    (.seq (.seq (.region [⟨some 19, none, .fldA 1 1 false (.t 1)⟩,
      ⟨some 20, none, .load 1 false (.t 19)⟩,
      ⟨some 21, none, .bin false .eql (.t 20) (.c (.int .i64 5))⟩,
      ⟨some 22, none, .mov (.t 21)⟩,
      ⟨some 23, some (22, true), .fldA 2 1 false (.t 1)⟩,
      ⟨some 24, some (22, true), .load 1 false (.t 23)⟩,
      ⟨some 25, some (22, true), .bin false .shr (.t 24) (.c (.int .u64 32))⟩,
      ⟨some 26, some (22, true), .bin false .neq (.t 25) (.c (.int .u64 0))⟩,
      ⟨some 27, none, .pickb (.t 22) (.t 26) (.c (.bool false))⟩,
      ⟨some 18, none, .mov (.t 27)⟩])
    (.cond (.t 18) .skip
    (.seq (.region [⟨some 28, none, .fldA 1 1 false (.t 1)⟩,
      ⟨some 29, none, .load 1 false (.t 28)⟩,
      ⟨some 30, none, .bin false .eql (.t 29) (.c (.int .i64 2))⟩,
      ⟨some 31, none, .mov (.t 30)⟩,
      ⟨some 32, some (31, true), .fldA 2 1 false (.t 1)⟩,
      ⟨some 33, some (31, true), .load 1 false (.t 32)⟩,
      ⟨some 34, some (31, true), .bin false .neq (.t 33) (.c (.int .u64 0))⟩,
      ⟨some 35, none, .pickb (.t 31) (.t 34) (.c (.bool false))⟩,
      ⟨some 18, none, .mov (.t 35)⟩])
    (.cond (.t 18) .skip
    (.region [⟨some 36, none, .fldA 1 1 false (.t 1)⟩,
      ⟨some 37, none, .load 1 false (.t 36)⟩,
      ⟨some 38, none, .bin false .neq (.t 37) (.c (.int .i64 2))⟩,
      ⟨some 39, none, .mov (.t 38)⟩,
      ⟨some 40, some (39, true), .fldA 3 1 false (.t 1)⟩,
      ⟨some 41, some (39, true), .load 1 false (.t 40)⟩,
      ⟨some 42, some (39, true), .len false (.t 41)⟩,
      ⟨some 43, some (39, true), .bin false .gtr (.t 42) (.c (.int .i64 0))⟩,
      ⟨some 44, none, .pickb (.t 39) (.t 43) (.c (.bool false))⟩,
      ⟨some 18, none, .mov (.t 44)⟩])))))
    (.cond (.t 18) (.seq (.region [⟨some 2, none, .mov (.c (.nil))⟩,
      ⟨some 3, none, .mov (.c (.int .i64 7))⟩])
    .ret)
    .skip)))))
    (.seq (.seq (.region [⟨some 45, none, .fldA 1 1 false (.t 1)⟩,
      ⟨some 46, none, .load 1 false (.t 45)⟩])
    (.block 1 (.seq (.region [⟨some 57, none, .bin false .eql (.t 46) (.c (.int .i64 0))⟩,
      ⟨some 56, none, .mov (.t 57)⟩])
    (.cond (.t 56) (.region [⟨some 58, none, .mov (.t 4)⟩,
      ⟨some 59, none, .fldA 2 1 false (.t 1)⟩,
      ⟨some 60, none, .load 1 false (.t 59)⟩,
      ⟨some 61, none, .call i_wire_varint [.t 58, .t 60]⟩,
      ⟨some 4, none, .mov (.t 61)⟩])
    (.seq (.region [⟨some 63, none, .bin false .eql (.t 46) (.c (.int .i64 1))⟩,
      ⟨some 62, none, .mov (.t 63)⟩])
    (.cond (.t 62) (.region [⟨some 64, none, .mov (.t 4)⟩,
      ⟨some 65, none, .fldA 2 1 false (.t 1)⟩,
      ⟨some 66, none, .load 1 false (.t 65)⟩,
      ⟨some 67, none, .call i_wire_word [.t 66, .c (.int .i64 8)]⟩,
      ⟨some 68, none, .app 0 5 1 1 (.t 64) (.t 67)⟩,
      ⟨some 4, none, .mov (.t 68)⟩])
    (.seq (.region [⟨some 70, none, .bin false .eql (.t 46) (.c (.int .i64 5))⟩,
      ⟨some 69, none, .mov (.t 70)⟩])
    (.cond (.t 69) (.region [⟨some 71, none, .mov (.t 4)⟩,
      ⟨some 72, none, .fldA 2 1 false (.t 1)⟩,
      ⟨some 73, none, .load 1 false (.t 72)⟩,
      ⟨some 74, none, .call i_wire_word [.t 73, .c (.int .i64 4)]⟩,
      ⟨some 75, none, .app 0 5 1 1 (.t 71) (.t 74)⟩,
      ⟨some 4, none, .mov (.t 75)⟩])
    (.draw [2, 3, 5, 8] [⟨some 47, none, .mov (.t 4)⟩,
      ⟨some 48, none, .fldA 3 1 false (.t 1)⟩,
      ⟨some 49, none, .load 1 false (.t 48)⟩,
      ⟨some 50, none, .len false (.t 49)⟩,
      ⟨some 51, none, .conv .u64 (.t 50)⟩,
      ⟨some 52, none, .call i_wire_varint [.t 47, .t 51]⟩,
      ⟨some 53, none, .fldA 3 1 false (.t 1)⟩,
      ⟨some 54, none, .load 1 false (.t 53)⟩,
      ⟨some 55, none, .app 0 5 1 1 (.t 52) (.t 54)⟩,
      ⟨some 4, none, .mov (.t 55)⟩])))))))))
    (.seq (.region [⟨some 76, none, .mov (.t 4)⟩,
      ⟨some 77, none, .len false (.t 76)⟩,
      ⟨some 78, none, .mks 0 5 1 1 (.int .u8 0) (.c (.int .i64 0)) (.t 77)⟩,
      ⟨some 79, none, .mov (.t 4)⟩,
      ⟨some 80, none, .app 0 5 1 1 (.t 78) (.t 79)⟩,
      ⟨some 2, none, .mov (.t 80)⟩,
      ⟨some 3, none, .mov (.c (.int .i64 0))⟩])
    .ret))))), [.tmp 2, .tmp 3]⟩
theorem T_wire_PutEntry : trFn Try.prog [(0, [1, 0, 0]), (1000009, [2, 3, 5, 8])] Try.f38 = some A_wire_PutEntry := by kernel_rfl
theorem L_wire_PutEntry : 1 ≤ Try.f38.ntmps := by decide

/-! cartouche/wire.GetEntry -/
def A_wire_GetEntry : AFn := ⟨(.seq (.region [⟨some 4, none, .alloc 0 [.int .i64 0, .int .i64 0, .int .u64 0, .nil]⟩,
      ⟨some 5, none, .mov (.c (.int .i64 0))⟩,
      ⟨some 6, none, .mov (.c (.int .i64 0))⟩])
    (.seq (.seq (.region [⟨some 8, none, .mov (.t 0)⟩,
      ⟨some 9, none, .mov (.t 1)⟩,
      ⟨some 10, none, .call i_wire_GetTag [.t 8, .t 9]⟩,
      ⟨some 7, none, .mov (.t 10)⟩,
      ⟨some 11, none, .ext 0 (.t 7)⟩,
      ⟨some 12, none, .ext 1 (.t 7)⟩,
      ⟨some 13, none, .ext 2 (.t 7)⟩,
      ⟨some 14, none, .ext 3 (.t 7)⟩,
      ⟨some 15, none, .fldA 0 1 false (.t 4)⟩,
      ⟨none, none, .store 1 (.t 15) (.t 11)⟩,
      ⟨some 16, none, .fldA 1 1 false (.t 4)⟩,
      ⟨none, none, .store 1 (.t 16) (.t 12)⟩,
      ⟨some 5, none, .mov (.t 13)⟩,
      ⟨some 6, none, .mov (.t 14)⟩])
    (.seq (.region [⟨some 17, none, .mov (.t 6)⟩,
      ⟨some 18, none, .bin false .neq (.t 17) (.c (.int .i64 0))⟩])
    (.cond (.t 18) (.seq (.region [⟨some 19, none, .build [.int .i64 0, .int .i64 0, .int .u64 0, .nil] []⟩,
      ⟨some 20, none, .mov (.t 6)⟩,
      ⟨none, none, .store 4 (.t 4) (.t 19)⟩,
      ⟨some 5, none, .mov (.c (.int .i64 0))⟩,
      ⟨some 6, none, .mov (.t 20)⟩])
    .ret)
    .skip)))
    (.seq (.seq (.region [⟨some 21, none, .fldA 1 1 false (.t 4)⟩,
      ⟨some 22, none, .load 1 false (.t 21)⟩])
    (.block 0 (.seq (.region [⟨some 32, none, .bin false .eql (.t 22) (.c (.int .i64 0))⟩,
      ⟨some 31, none, .mov (.t 32)⟩])
    (.cond (.t 31) (.region [⟨some 34, none, .mov (.t 0)⟩,
      ⟨some 35, none, .mov (.t 5)⟩,
      ⟨some 36, none, .call i_wire_GetVarint [.t 34, .t 35]⟩,
      ⟨some 33, none, .mov (.t 36)⟩,
      ⟨some 37, none, .ext 0 (.t 33)⟩,
      ⟨some 38, none, .ext 1 (.t 33)⟩,
      ⟨some 39, none, .ext 2 (.t 33)⟩,
      ⟨some 40, none, .fldA 2 1 false (.t 4)⟩,
      ⟨none, none, .store 1 (.t 40) (.t 37)⟩,
      ⟨some 5, none, .mov (.t 38)⟩,
      ⟨some 6, none, .mov (.t 39)⟩])
    (.seq (.region [⟨some 42, none, .bin false .eql (.t 22) (.c (.int .i64 1))⟩,
      ⟨some 41, none, .mov (.t 42)⟩])
    (.cond (.t 41) (.region [⟨some 44, none, .mov (.t 0)⟩,
      ⟨some 45, none, .mov (.t 5)⟩,
      ⟨some 46, none, .call i_wire_read [.t 44, .t 45, .c (.int .i64 8)]⟩,
      ⟨some 43, none, .mov (.t 46)⟩,
      ⟨some 47, none, .ext 0 (.t 43)⟩,
      ⟨some 48, none, .ext 1 (.t 43)⟩,
      ⟨some 49, none, .ext 2 (.t 43)⟩,
      ⟨some 50, none, .fldA 2 1 false (.t 4)⟩,
      ⟨none, none, .store 1 (.t 50) (.t 47)⟩,
      ⟨some 5, none, .mov (.t 48)⟩,
      ⟨some 6, none, .mov (.t 49)⟩])
    (.seq (.region [⟨some 52, none, .bin false .eql (.t 22) (.c (.int .i64 5))⟩,
      ⟨some 51, none, .mov (.t 52)⟩])
    (.cond (.t 51) (.region [⟨some 54, none, .mov (.t 0)⟩,
      ⟨some 55, none, .mov (.t 5)⟩,
      ⟨some 56, none, .call i_wire_read [.t 54, .t 55, .c (.int .i64 4)]⟩,
      ⟨some 53, none, .mov (.t 56)⟩,
      ⟨some 57, none, .ext 0 (.t 53)⟩,
      ⟨some 58, none, .ext 1 (.t 53)⟩,
      ⟨some 59, none, .ext 2 (.t 53)⟩,
      ⟨some 60, none, .fldA 2 1 false (.t 4)⟩,
      ⟨none, none, .store 1 (.t 60) (.t 57)⟩,
      ⟨some 5, none, .mov (.t 58)⟩,
      ⟨some 6, none, .mov (.t 59)⟩])
    (.region [⟨some 24, none, .mov (.t 0)⟩,
      ⟨some 25, none, .mov (.t 5)⟩,
      ⟨some 26, none, .call i_wire_GetChunk [.t 24, .t 25]⟩,
      ⟨some 23, none, .mov (.t 26)⟩,
      ⟨some 27, none, .ext 0 (.t 23)⟩,
      ⟨some 28, none, .ext 1 (.t 23)⟩,
      ⟨some 29, none, .ext 2 (.t 23)⟩,
      ⟨some 30, none, .fldA 3 1 false (.t 4)⟩,
      ⟨none, none, .store 1 (.t 30) (.t 27)⟩,
      ⟨some 5, none, .mov (.t 28)⟩,
      ⟨some 6, none, .mov (.t 29)⟩])))))))))
    (.seq (.seq (.region [⟨some 61, none, .mov (.t 6)⟩,
      ⟨some 62, none, .bin false .neq (.t 61) (.c (.int .i64 0))⟩])
    (.cond (.t 62) (.seq (.region [⟨some 63, none, .build [.int .i64 0, .int .i64 0, .int .u64 0, .nil] []⟩,
      ⟨some 64, none, .mov (.t 6)⟩,
      ⟨none, none, .store 4 (.t 4) (.t 63)⟩,
      ⟨some 5, none, .mov (.c (.int .i64 0))⟩,
      ⟨some 6, none, .mov (.t 64)⟩])
    .ret)
    .skip))
    (.seq (.region [⟨some 65, none, .load 4 true (.t 4)⟩,
      ⟨some 66, none, .mov (.t 5)⟩,
      ⟨none, none, .store 4 (.t 4) (.t 65)⟩,
      ⟨some 5, none, .mov (.t 66)⟩,
      ⟨some 6, none, .mov (.c (.int .i64 0))⟩])
    .ret))))), [.cell 4 4 true, .tmp 5, .tmp 6]⟩
theorem T_wire_GetEntry : trFn Try.prog [(0, [1, 0, 0])] Try.f39 = some A_wire_GetEntry := by kernel_rfl
theorem L_wire_GetEntry : 2 ≤ Try.f39.ntmps := by decide

/-! cartouche/cartoucheref1.Same -/
def A_cartoucheref1_Same : AFn := ⟨(.seq (.region [⟨some 2, none, .box 0 (.t 0)⟩,
      ⟨some 3, none, .box 0 (.t 1)⟩,
      ⟨some 4, none, .mov (.c (.bool false))⟩])
    (.seq (.region [⟨some 5, none, .fldA 0 1 false (.t 2)⟩,
      ⟨some 6, none, .load 1 false (.t 5)⟩,
      ⟨some 7, none, .fldA 0 1 false (.t 3)⟩,
      ⟨some 8, none, .load 1 false (.t 7)⟩,
      ⟨some 9, none, .bin false .eql (.t 6) (.t 8)⟩,
      ⟨some 10, none, .mov (.t 9)⟩,
      ⟨some 11, some (10, true), .fldA 1 1 false (.t 2)⟩,
      ⟨some 12, some (10, true), .load 1 false (.t 11)⟩,
      ⟨some 13, some (10, true), .fldA 1 1 false (.t 3)⟩,
      ⟨some 14, some (10, true), .load 1 false (.t 13)⟩,
      ⟨some 15, some (10, true), .bin false .eql (.t 12) (.t 14)⟩,
      ⟨some 16, none, .pickb (.t 10) (.t 15) (.c (.bool false))⟩,
      ⟨some 17, none, .mov (.t 16)⟩,
      ⟨some 18, some (17, true), .fldA 2 1 false (.t 2)⟩,
      ⟨some 19, some (17, true), .load 1 false (.t 18)⟩,
      ⟨some 20, some (17, true), .fldA 2 1 false (.t 3)⟩,
      ⟨some 21, some (17, true), .load 1 false (.t 20)⟩,
      ⟨some 22, some (17, true), .bin false .eql (.t 19) (.t 21)⟩,
      ⟨some 23, none, .pickb (.t 17) (.t 22) (.c (.bool false))⟩,
      ⟨some 24, none, .mov (.t 23)⟩,
      ⟨some 25, some (24, true), .fldA 3 1 false (.t 2)⟩,
      ⟨some 26, some (24, true), .load 1 false (.t 25)⟩,
      ⟨some 27, some (24, true), .b2s (.t 26)⟩,
      ⟨some 28, some (24, true), .fldA 3 1 false (.t 3)⟩,
      ⟨some 29, some (24, true), .load 1 false (.t 28)⟩,
      ⟨some 30, some (24, true), .b2s (.t 29)⟩,
      ⟨some 31, some (24, true), .bin false .eql (.t 27) (.t 30)⟩,
      ⟨some 32, none, .pickb (.t 24) (.t 31) (.c (.bool false))⟩,
      ⟨some 4, none, .mov (.t 32)⟩])
    .ret)), [.tmp 4]⟩
theorem T_cartoucheref1_Same : trFn Try.prog [(0, [1, 1, 0])] Try.f40 = some A_cartoucheref1_Same := by kernel_rfl
theorem L_cartoucheref1_Same : 2 ≤ Try.f40.ntmps := by decide

/-! cartouche/cartouchelaw1.reads -/
def A_cartouchelaw1_reads : AFn := ⟨(.seq (.region [⟨some 10, none, .mov (.c (.bool false))⟩])
    (.seq (.region [⟨some 15, none, .mov (.t 0)⟩,
      ⟨some 16, none, .mov (.t 1)⟩,
      ⟨some 17, none, .call i_wire_GetVarint [.t 15, .t 16]⟩,
      ⟨some 14, none, .mov (.t 17)⟩,
      ⟨some 18, none, .ext 0 (.t 14)⟩,
      ⟨some 19, none, .ext 1 (.t 14)⟩,
      ⟨some 20, none, .ext 2 (.t 14)⟩,
      ⟨some 11, none, .mov (.t 18)⟩,
      ⟨some 12, none, .mov (.t 19)⟩,
      ⟨some 13, none, .mov (.t 20)⟩])
    (.seq (.region [⟨some 21, none, .mov (.t 11)⟩,
      ⟨some 22, none, .mov (.t 2)⟩,
      ⟨some 23, none, .bin false .eql (.t 21) (.t 22)⟩,
      ⟨some 24, none, .mov (.t 23)⟩,
      ⟨some 25, some (24, true), .mov (.t 12)⟩,
      ⟨some 26, some (24, true), .mov (.t 3)⟩,
      ⟨some 27, some (24, true), .bin false .eql (.t 25) (.t 26)⟩,
      ⟨some 28, none, .pickb (.t 24) (.t 27) (.c (.bool false))⟩,
      ⟨some 29, none, .mov (.t 28)⟩,
      ⟨some 30, some (29, true), .mov (.t 13)⟩,
      ⟨some 31, some (29, true), .mov (.t 4)⟩,
      ⟨some 32, some (29, true), .bin false .eql (.t 30) (.t 31)⟩,
      ⟨some 33, none, .pickb (.t 29) (.t 32) (.c (.bool false))⟩,
      ⟨some 10, none, .mov (.t 33)⟩])
    .ret))), [.tmp 10]⟩
theorem T_cartouchelaw1_reads : trFn Try.prog [] Try.f41 = some A_cartouchelaw1_reads := by kernel_rfl
theorem L_cartouchelaw1_reads : 5 ≤ Try.f41.ntmps := by decide

/-! cartouche/wire.place -/
def A_wire_place : AFn := ⟨(.seq (.region [⟨some 4, none, .mov (.c (.bool false))⟩])
    (.seq (.region [⟨some 5, none, .mov (.t 1)⟩,
      ⟨some 6, none, .bin false .geq (.t 5) (.c (.int .i64 0))⟩,
      ⟨some 7, none, .mov (.t 6)⟩,
      ⟨some 8, some (7, true), .mov (.t 1)⟩,
      ⟨some 9, some (7, true), .mov (.t 0)⟩,
      ⟨some 10, some (7, true), .len false (.t 9)⟩,
      ⟨some 11, some (7, true), .bin false .leq (.t 8) (.t 10)⟩,
      ⟨some 12, none, .pickb (.t 7) (.t 11) (.c (.bool false))⟩,
      ⟨some 4, none, .mov (.t 12)⟩])
    .ret)), [.tmp 4]⟩
theorem T_wire_place : trFn Try.prog [] Try.f46 = some A_wire_place := by kernel_rfl
theorem L_wire_place : 2 ≤ Try.f46.ntmps := by decide

/-! cartouche/wire.varint -/
def A_wire_varint : AFn := ⟨(.seq (.region [⟨some 4, none, .mov (.c (.nil))⟩])
    (.seq (.block 0 (.loop (.seq (.seq (.region [⟨some 5, none, .mov (.t 1)⟩,
      ⟨some 6, none, .bin false .geq (.t 5) (.c (.int .u64 128))⟩])
    (.cond (.t 6) .skip
    (.exit 0)))
    (.block 1 (.seq (.region [⟨some 7, none, .mov (.t 0)⟩,
      ⟨some 8, none, .mov (.t 1)⟩,
      ⟨some 9, none, .conv .u8 (.t 8)⟩,
      ⟨some 10, none, .bin false .or (.t 9) (.c (.int .u8 128))⟩,
      ⟨some 11, none, .blit 0 5 1 [.t 10]⟩,
      ⟨some 12, none, .app 0 5 1 1 (.t 7) (.t 11)⟩,
      ⟨some 0, none, .mov (.t 12)⟩])
    (.region [⟨some 13, none, .mov (.t 1)⟩,
      ⟨some 14, none, .bin false .shr (.t 13) (.c (.int .u64 7))⟩,
      ⟨some 1, none, .mov (.t 14)⟩]))))))
    (.seq (.region [⟨some 15, none, .mov (.t 0)⟩,
      ⟨some 16, none, .mov (.t 1)⟩,
      ⟨some 17, none, .conv .u8 (.t 16)⟩,
      ⟨some 18, none, .blit 0 5 1 [.t 17]⟩,
      ⟨some 19, none, .app 0 5 1 1 (.t 15) (.t 18)⟩,
      ⟨some 4, none, .mov (.t 19)⟩])
    .ret))), [.tmp 4]⟩
theorem T_wire_varint : trFn Try.prog [(2, [0, 0, 0, 0, 1, 0, 0]), (4, [0, 0, 0, 1, 0, 0])] Try.f47 = some A_wire_varint := by kernel_rfl
theorem L_wire_varint : 2 ≤ Try.f47.ntmps := by decide

/-! math/bits.Len64 -/
def A_bits_Len64 : AFn := ⟨(.seq (.region [⟨some 2, none, .mov (.c (.int .i64 0))⟩])
    (.seq (.seq (.region [⟨some 3, none, .mov (.t 0)⟩,
      ⟨some 4, none, .bin false .geq (.t 3) (.c (.int .u64 4294967296))⟩])
    (.cond (.t 4) (.seq (.region [⟨some 5, none, .mov (.t 0)⟩,
      ⟨some 6, none, .bin false .shr (.t 5) (.c (.int .u64 32))⟩,
      ⟨some 0, none, .mov (.t 6)⟩])
    (.region [⟨some 2, none, .mov (.c (.int .i64 32))⟩]))
    .skip))
    (.seq (.seq (.region [⟨some 7, none, .mov (.t 0)⟩,
      ⟨some 8, none, .bin false .geq (.t 7) (.c (.int .u64 65536))⟩])
    (.cond (.t 8) (.seq (.region [⟨some 9, none, .mov (.t 0)⟩,
      ⟨some 10, none, .bin false .shr (.t 9) (.c (.int .u64 16))⟩,
      ⟨some 0, none, .mov (.t 10)⟩])
    (.region [⟨some 11, none, .mov (.t 2)⟩,
      ⟨some 12, none, .bin false .add (.t 11) (.c (.int .i64 16))⟩,
      ⟨some 2, none, .mov (.t 12)⟩]))
    .skip))
    (.seq (.seq (.region [⟨some 13, none, .mov (.t 0)⟩,
      ⟨some 14, none, .bin false .geq (.t 13) (.c (.int .u64 256))⟩])
    (.cond (.t 14) (.seq (.region [⟨some 15, none, .mov (.t 0)⟩,
      ⟨some 16, none, .bin false .shr (.t 15) (.c (.int .u64 8))⟩,
      ⟨some 0, none, .mov (.t 16)⟩])
    (.region [⟨some 17, none, .mov (.t 2)⟩,
      ⟨some 18, none, .bin false .add (.t 17) (.c (.int .i64 8))⟩,
      ⟨some 2, none, .mov (.t 18)⟩]))
    .skip))
    (.seq (.region [⟨some 19, none, .mov (.t 2)⟩,
      ⟨some 20, none, .mov (.t 0)⟩,
      ⟨some 21, none, .conv .u8 (.t 20)⟩,
      ⟨some 22, none, .idxS (.c (.str ⟨#[0, 1, 2, 2, 3, 3, 3, 3, 4, 4, 4, 4, 4, 4, 4, 4, 5, 5, 5, 5, 5, 5, 5, 5, 5, 5, 5, 5, 5, 5, 5, 5, 6, 6, 6, 6, 6, 6, 6, 6, 6, 6, 6, 6, 6, 6, 6, 6, 6, 6, 6, 6, 6, 6, 6, 6, 6, 6, 6, 6, 6, 6, 6, 6, 7, 7, 7, 7, 7, 7, 7, 7, 7, 7, 7, 7, 7, 7, 7, 7, 7, 7, 7, 7, 7, 7, 7, 7, 7, 7, 7, 7, 7, 7, 7, 7, 7, 7, 7, 7, 7, 7, 7, 7, 7, 7, 7, 7, 7, 7, 7, 7, 7, 7, 7, 7, 7, 7, 7, 7, 7, 7, 7, 7, 7, 7, 7, 7, 8, 8, 8, 8, 8, 8, 8, 8, 8, 8, 8, 8, 8, 8, 8, 8, 8, 8, 8, 8, 8, 8, 8, 8, 8, 8, 8, 8, 8, 8, 8, 8, 8, 8, 8, 8, 8, 8, 8, 8, 8, 8, 8, 8, 8, 8, 8, 8, 8, 8, 8, 8, 8, 8, 8, 8, 8, 8, 8, 8, 8, 8, 8, 8, 8, 8, 8, 8, 8, 8, 8, 8, 8, 8, 8, 8, 8, 8, 8, 8, 8, 8, 8, 8, 8, 8, 8, 8, 8, 8, 8, 8, 8, 8, 8, 8, 8, 8, 8, 8, 8, 8, 8, 8, 8, 8, 8, 8, 8, 8, 8, 8, 8, 8, 8, 8, 8, 8, 8, 8, 8, 8, 8, 8, 8, 8, 8, 8]⟩)) (.t 21)⟩,
      ⟨some 23, none, .conv .i64 (.t 22)⟩,
      ⟨some 24, none, .bin false .add (.t 19) (.t 23)⟩,
      ⟨some 2, none, .mov (.t 24)⟩])
    .ret))))), [.tmp 2]⟩
theorem T_bits_Len64 : trFn Try.prog [] Try.f48 = some A_bits_Len64 := by kernel_rfl
theorem L_bits_Len64 : 1 ≤ Try.f48.ntmps := by decide

/-! cartouche/wire.isKind -/
def A_wire_isKind : AFn := ⟨(.seq (.region [⟨some 2, none, .mov (.c (.bool false))⟩])
    (.seq (.seq (.region [⟨some 3, none, .mov (.t 0)⟩])
    (.block 0 (.seq (.seq (.region [⟨some 5, none, .bin false .eql (.t 3) (.c (.int .i64 0))⟩,
      ⟨some 4, none, .mov (.t 5)⟩])
    (.cond (.t 4) .skip
    (.seq (.region [⟨some 6, none, .bin false .eql (.t 3) (.c (.int .i64 1))⟩,
      ⟨some 4, none, .mov (.t 6)⟩])
    (.cond (.t 4) .skip
    (.seq (.region [⟨some 7, none, .bin false .eql (.t 3) (.c (.int .i64 2))⟩,
      ⟨some 4, none, .mov (.t 7)⟩])
    (.cond (.t 4) .skip
    (.region [⟨some 8, none, .bin false .eql (.t 3) (.c (.int .i64 5))⟩,
      ⟨some 4, none, .mov (.t 8)⟩])))))))
    (.cond (.t 4) (.seq (.region [⟨some 2, none, .mov (.c (.bool true))⟩])
    .ret)
    .skip))))
    (.seq (.region [⟨some 2, none, .mov (.c (.bool false))⟩])
    .ret))), [.tmp 2]⟩
theorem T_wire_isKind : trFn Try.prog [] Try.f49 = some A_wire_isKind := by kernel_rfl
theorem L_wire_isKind : 1 ≤ Try.f49.ntmps := by decide

/-! cartouche/wire.read -/
def A_wire_read : AFn := ⟨(.seq (.region [⟨some 6, none, .mov (.c (.int .u64 0))⟩,
      ⟨some 7, none, .mov (.c (.int .i64 0))⟩,
      ⟨some 8, none, .mov (.c (.int .i64 0))⟩])
    (.seq (.block 0 (.seq (.region [⟨some 11, none, .mov (.t 0)⟩,
      ⟨some 12, none, .mov (.t 1)⟩,
      ⟨some 13, none, .call i_wire_place [.t 11, .t 12]⟩,
      ⟨some 14, none, .un .not (.t 13)⟩,
      ⟨some 10, none, .mov (.t 14)⟩])
    (.cond (.t 10) (.seq (.region [⟨some 6, none, .mov (.c (.int .u64 0))⟩,
      ⟨some 7, none, .mov (.c (.int .i64 0))⟩,
      ⟨some 8, none, .mov (.c (.int .i64 18))⟩])
    .ret)
    (.seq (.region [⟨some 16, none, .mov (.t 0)⟩,
      ⟨some 17, none, .len false (.t 16)⟩,
      ⟨some 18, none, .mov (.t 1)⟩,
      ⟨some 19, none, .bin false .sub (.t 17) (.t 18)⟩,
      ⟨some 20, none, .mov (.t 2)⟩,
      ⟨some 21, none, .bin false .lss (.t 19) (.t 20)⟩,
      ⟨some 15, none, .mov (.t 21)⟩])
    (.cond (.t 15) (.seq (.region [⟨some 6, none, .mov (.c (.int .u64 0))⟩,
      ⟨some 7, none, .mov (.c (.int .i64 0))⟩,
      ⟨some 8, none, .mov (.c (.int .i64 3))⟩])
    .ret)
    .skip)))))
    (.seq (.seq (.region [⟨some 22, none, .mov (.t 2)⟩,
      ⟨some 23, none, .mov (.c (.int .i64 0))⟩])
    (.block 1 (.loop (.seq (.region [⟨some 24, none, .bin false .lss (.t 23) (.t 22)⟩])
    (.seq (.cond (.t 24) .skip
    (.exit 1))
    (.seq (.block 2 (.seq (.region [⟨some 25, none, .mov (.t 23)⟩,
      ⟨some 9, none, .mov (.t 25)⟩])
    (.region [⟨some 26, none, .mov (.t 6)⟩,
      ⟨some 27, none, .mov (.t 0)⟩,
      ⟨some 28, none, .mov (.t 1)⟩,
      ⟨some 29, none, .mov (.t 9)⟩,
      ⟨some 30, none, .bin false .add (.t 28) (.t 29)⟩,
      ⟨some 31, none, .idxA 1 (.t 27) (.t 30)⟩,
      ⟨some 32, none, .load 1 false (.t 31)⟩,
      ⟨some 33, none, .conv .u64 (.t 32)⟩,
      ⟨some 34, none, .mov (.t 9)⟩,
      ⟨some 35, none, .bin false .mul (.c (.int .i64 8)) (.t 34)⟩,
      ⟨some 36, none, .bin false .shl (.t 33) (.t 35)⟩,
      ⟨some 37, none, .bin false .or (.t 26) (.t 36)⟩,
      ⟨some 6, none, .mov (.t 37)⟩])))
    (.region [⟨some 38, none, .bin false .add (.t 23) (.c (.int .i64 1))⟩,
      ⟨some 23, none, .mov (.t 38)⟩])))))))
    (.seq (.region [⟨some 39, none, .mov (.t 6)⟩,
      ⟨some 40, none, .mov (.t 1)⟩,
      ⟨some 41, none, .mov (.t 2)⟩,
      ⟨some 42, none, .bin false .add (.t 40) (.t 41)⟩,
      ⟨some 6, none, .mov (.t 39)⟩,
      ⟨some 7, none, .mov (.t 42)⟩,
      ⟨some 8, none, .mov (.c (.int .i64 0))⟩])
    .ret)))), [.tmp 6, .tmp 7, .tmp 8]⟩
theorem T_wire_read : trFn Try.prog [] Try.f51 = some A_wire_read := by kernel_rfl
theorem L_wire_read : 3 ≤ Try.f51.ntmps := by decide

/-! cartouche/wire.Span -/
def A_wire_Span : AFn := ⟨(.seq (.region [⟨some 4, none, .mov (.c (.int .i64 0))⟩,
      ⟨some 5, none, .mov (.c (.int .i64 0))⟩,
      ⟨some 6, none, .mov (.c (.int .i64 0))⟩])
    (.seq (.region [⟨some 9, none, .mov (.t 0)⟩,
      ⟨some 10, none, .mov (.t 1)⟩,
      ⟨some 11, none, .call i_wire_GetVarint [.t 9, .t 10]⟩,
      ⟨some 8, none, .mov (.t 11)⟩,
      ⟨some 12, none, .ext 0 (.t 8)⟩,
      ⟨some 13, none, .ext 1 (.t 8)⟩,
      ⟨some 14, none, .ext 2 (.t 8)⟩,
      ⟨some 7, none, .mov (.t 12)⟩,
      ⟨some 4, none, .mov (.t 13)⟩,
      ⟨some 6, none, .mov (.t 14)⟩])
    (.seq (.block 0 (.seq (.region [⟨some 16, none, .mov (.t 6)⟩,
      ⟨some 17, none, .bin false .neq (.t 16) (.c (.int .i64 0))⟩,
      ⟨some 15, none, .mov (.t 17)⟩])
    (.cond (.t 15) (.seq (.region [⟨some 18, none, .mov (.t 6)⟩,
      ⟨some 4, none, .mov (.c (.int .i64 0))⟩,
      ⟨some 5, none, .mov (.c (.int .i64 0))⟩,
      ⟨some 6, none, .mov (.t 18)⟩])
    .ret)
    (.seq (.region [⟨some 20, none, .mov (.t 7)⟩,
      ⟨some 21, none, .mov (.t 0)⟩,
      ⟨some 22, none, .len false (.t 21)⟩,
      ⟨some 23, none, .mov (.t 4)⟩,
      ⟨some 24, none, .bin false .sub (.t 22) (.t 23)⟩,
      ⟨some 25, none, .conv .u64 (.t 24)⟩,
      ⟨some 26, none, .bin false .gtr (.t 20) (.t 25)⟩,
      ⟨some 19, none, .mov (.t 26)⟩])
    (.cond (.t 19) (.seq (.region [⟨some 4, none, .mov (.c (.int .i64 0))⟩,
      ⟨some 5, none, .mov (.c (.int .i64 0))⟩,
      ⟨some 6, none, .mov (.c (.int .i64 3))⟩])
    .ret)
    .skip)))))
    (.seq (.region [⟨some 27, none, .mov (.t 4)⟩,
      ⟨some 28, none, .mov (.t 4)⟩,
      ⟨some 29, none, .mov (.t 7)⟩,
      ⟨some 30, none, .conv .i64 (.t 29)⟩,
      ⟨some 31, none, .bin false .add (.t 28) (.t 30)⟩,
      ⟨some 4, none, .mov (.t 27)⟩,
      ⟨some 5, none, .mov (.t 31)⟩,
      ⟨some 6, none, .mov (.c (.int .i64 0))⟩])
    .ret)))), [.tmp 4, .tmp 5, .tmp 6]⟩
theorem T_wire_Span : trFn Try.prog [] Try.f52 = some A_wire_Span := by kernel_rfl
theorem L_wire_Span : 2 ≤ Try.f52.ntmps := by decide

/-! cartouche/wire.word -/
def A_wire_word : AFn := ⟨(.seq (.region [⟨some 4, none, .mov (.c (.nil))⟩])
    (.seq (.region [⟨some 7, none, .mov (.t 1)⟩,
      ⟨some 8, none, .mks 0 5 1 1 (.int .u8 0) (.c (.int .i64 0)) (.t 7)⟩,
      ⟨some 5, none, .mov (.t 8)⟩])
    (.seq (.seq (.region [⟨some 9, none, .mov (.t 1)⟩,
      ⟨some 10, none, .mov (.c (.int .i64 0))⟩])
    (.block 0 (.loop (.seq (.region [⟨some 11, none, .bin false .lss (.t 10) (.t 9)⟩])
    (.seq (.cond (.t 11) .skip
    (.exit 0))
    (.seq (.block 1 (.seq (.region [⟨some 12, none, .mov (.t 10)⟩,
      ⟨some 6, none, .mov (.t 12)⟩])
    (.region [⟨some 13, none, .mov (.t 5)⟩,
      ⟨some 14, none, .mov (.t 0)⟩,
      ⟨some 15, none, .mov (.t 6)⟩,
      ⟨some 16, none, .bin false .mul (.c (.int .i64 8)) (.t 15)⟩,
      ⟨some 17, none, .bin false .shr (.t 14) (.t 16)⟩,
      ⟨some 18, none, .conv .u8 (.t 17)⟩,
      ⟨some 19, none, .blit 0 5 1 [.t 18]⟩,
      ⟨some 20, none, .app 0 5 1 1 (.t 13) (.t 19)⟩,
      ⟨some 5, none, .mov (.t 20)⟩])))
    (.region [⟨some 21, none, .bin false .add (.t 10) (.c (.int .i64 1))⟩,
      ⟨some 10, none, .mov (.t 21)⟩])))))))
    (.seq (.region [⟨some 22, none, .mov (.t 5)⟩,
      ⟨some 4, none, .mov (.t 22)⟩])
    .ret)))), [.tmp 4]⟩
theorem T_wire_word : trFn Try.prog [(5, [0, 0, 0, 0, 0, 0, 1, 0, 0])] Try.f53 = some A_wire_word := by kernel_rfl
theorem L_wire_word : 2 ≤ Try.f53.ntmps := by decide

def tab_WireKnown : Tab := [(i_cartouchelaw1_WireKnown, (0, A_cartouchelaw1_WireKnown)), (i_wire_GetVarint, (2, A_wire_GetVarint)), (i_cartouchelaw1_awake, (0, A_cartouchelaw1_awake)), (i_cartouchelaw1_same, (2, A_cartouchelaw1_same)), (i_wire_PutVarint, (1, A_wire_PutVarint)), (i_wire_Size, (1, A_wire_Size)), (i_wire_ZigZag, (1, A_wire_ZigZag)), (i_wire_ZagZig, (1, A_wire_ZagZig)), (i_wire_PutTag, (2, A_wire_PutTag)), (i_wire_GetTag, (2, A_wire_GetTag)), (i_wire_GetFix32, (2, A_wire_GetFix32)), (i_wire_GetChunk, (2, A_wire_GetChunk)), (i_wire_PutFix32, (1, A_wire_PutFix32)), (i_wire_PutChunk, (1, A_wire_PutChunk)), (i_wire_Split, (1, A_wire_Split)), (i_cartoucheref1_List, (2, A_cartoucheref1_List)), (i_wire_PutEntry, (1, A_wire_PutEntry)), (i_wire_GetEntry, (2, A_wire_GetEntry)), (i_cartoucheref1_Same, (2, A_cartoucheref1_Same)), (i_cartouchelaw1_reads, (5, A_cartouchelaw1_reads)), (i_wire_place, (2, A_wire_place)), (i_wire_varint, (2, A_wire_varint)), (i_bits_Len64, (1, A_bits_Len64)), (i_wire_isKind, (1, A_wire_isKind)), (i_wire_read, (3, A_wire_read)), (i_wire_Span, (2, A_wire_Span)), (i_wire_word, (2, A_wire_word))]
def modes_WireKnown : List (Nat × Nat) := [(i_cartouchelaw1_WireKnown, 1), (i_wire_GetVarint, 1), (i_cartouchelaw1_awake, 1), (i_cartouchelaw1_same, 1), (i_wire_PutVarint, 0), (i_wire_Size, 1), (i_wire_ZigZag, 1), (i_wire_ZagZig, 1), (i_wire_PutTag, 2), (i_wire_GetTag, 1), (i_wire_GetFix32, 1), (i_wire_GetChunk, 2), (i_wire_PutFix32, 2), (i_wire_PutChunk, 2), (i_wire_Split, 0), (i_cartoucheref1_List, 1), (i_wire_PutEntry, 0), (i_wire_GetEntry, 2), (i_cartoucheref1_Same, 1), (i_cartouchelaw1_reads, 1), (i_wire_place, 1), (i_wire_varint, 0), (i_bits_Len64, 1), (i_wire_isKind, 1), (i_wire_read, 1), (i_wire_Span, 1), (i_wire_word, 2)]
theorem tabOk_WireKnown : TabOk Try.prog tab_WireKnown := .cons _ _ F_cartouchelaw1_WireKnown T_cartouchelaw1_WireKnown L_cartouchelaw1_WireKnown (by kernel_rfl) (.cons _ _ F_wire_GetVarint T_wire_GetVarint L_wire_GetVarint (by kernel_rfl) (.cons _ _ F_cartouchelaw1_awake T_cartouchelaw1_awake L_cartouchelaw1_awake (by kernel_rfl) (.cons _ _ F_cartouchelaw1_same T_cartouchelaw1_same L_cartouchelaw1_same (by kernel_rfl) (.cons _ _ F_wire_PutVarint T_wire_PutVarint L_wire_PutVarint (by kernel_rfl) (.cons _ _ F_wire_Size T_wire_Size L_wire_Size (by kernel_rfl) (.cons _ _ F_wire_ZigZag T_wire_ZigZag L_wire_ZigZag (by kernel_rfl) (.cons _ _ F_wire_ZagZig T_wire_ZagZig L_wire_ZagZig (by kernel_rfl) (.cons _ _ F_wire_PutTag T_wire_PutTag L_wire_PutTag (by kernel_rfl) (.cons _ _ F_wire_GetTag T_wire_GetTag L_wire_GetTag (by kernel_rfl) (.cons _ _ F_wire_GetFix32 T_wire_GetFix32 L_wire_GetFix32 (by kernel_rfl) (.cons _ _ F_wire_GetChunk T_wire_GetChunk L_wire_GetChunk (by kernel_rfl) (.cons _ _ F_wire_PutFix32 T_wire_PutFix32 L_wire_PutFix32 (by kernel_rfl) (.cons _ _ F_wire_PutChunk T_wire_PutChunk L_wire_PutChunk (by kernel_rfl) (.cons _ _ F_wire_Split T_wire_Split L_wire_Split (by kernel_rfl) (.cons _ _ F_cartoucheref1_List T_cartoucheref1_List L_cartoucheref1_List (by kernel_rfl) (.cons _ _ F_wire_PutEntry T_wire_PutEntry L_wire_PutEntry (by kernel_rfl) (.cons _ _ F_wire_GetEntry T_wire_GetEntry L_wire_GetEntry (by kernel_rfl) (.cons _ _ F_cartoucheref1_Same T_cartoucheref1_Same L_cartoucheref1_Same (by kernel_rfl) (.cons _ _ F_cartouchelaw1_reads T_cartouchelaw1_reads L_cartouchelaw1_reads (by kernel_rfl) (.cons _ _ F_wire_place T_wire_place L_wire_place (by kernel_rfl) (.cons _ _ F_wire_varint T_wire_varint L_wire_varint (by kernel_rfl) (.cons _ _ F_bits_Len64 T_bits_Len64 L_bits_Len64 (by kernel_rfl) (.cons _ _ F_wire_isKind T_wire_isKind L_wire_isKind (by kernel_rfl) (.cons _ _ F_wire_read T_wire_read L_wire_read (by kernel_rfl) (.cons _ _ F_wire_Span T_wire_Span L_wire_Span (by kernel_rfl) (.cons _ _ F_wire_word T_wire_word L_wire_word (by kernel_rfl) (.nil)))))))))))))))))))))))))))

theorem known_WireKnown : saysTrue (evF tab_WireKnown modes_WireKnown 1000 60 i_cartouchelaw1_WireKnown [] []) = true := by kernel_rfl
theorem fc_WireKnown : FC Try.prog i_cartouchelaw1_WireKnown [] (· = .bool true) := .ofEv tabOk_WireKnown known_WireKnown
end Go.Proofs.Ytfmeedphpcjkmaa.Ag
