/- The functions of layer 1 as the walk has them. -/
import Derived.Test.YtfmeedphpcjkmaaProg
import Derived.Test.YtfmeedphpcjkmaaAg16
namespace Go.Proofs.Ytfmeedphpcjkmaa.Ag
abbrev i_cartouchelaw1_WireVarints : FuncId := 3
theorem F_cartouchelaw1_WireVarints : Try.prog.funcs[i_cartouchelaw1_WireVarints]? = some Try.f3 := Try.func3
abbrev i_cartouchelaw1_WireTags : FuncId := 4
theorem F_cartouchelaw1_WireTags : Try.prog.funcs[i_cartouchelaw1_WireTags]? = some Try.f4 := Try.func4
abbrev i_cartouchelaw1_WireWords : FuncId := 5
theorem F_cartouchelaw1_WireWords : Try.prog.funcs[i_cartouchelaw1_WireWords]? = some Try.f5 := Try.func5
abbrev i_cartouchelaw1_WireKept : FuncId := 6
theorem F_cartouchelaw1_WireKept : Try.prog.funcs[i_cartouchelaw1_WireKept]? = some Try.f6 := Try.func6
abbrev i_cartouchelaw1_WireBack : FuncId := 7
theorem F_cartouchelaw1_WireBack : Try.prog.funcs[i_cartouchelaw1_WireBack]? = some Try.f7 := Try.func7
abbrev i_cartouchelaw1_WireKnown : FuncId := 8
theorem F_cartouchelaw1_WireKnown : Try.prog.funcs[i_cartouchelaw1_WireKnown]? = some Try.f8 := Try.func8
abbrev i_cartouchelaw1_WireEntries : FuncId := 9
theorem F_cartouchelaw1_WireEntries : Try.prog.funcs[i_cartouchelaw1_WireEntries]? = some Try.f9 := Try.func9
abbrev i_cartouchelaw1_WireJoins : FuncId := 10
theorem F_cartouchelaw1_WireJoins : Try.prog.funcs[i_cartouchelaw1_WireJoins]? = some Try.f10 := Try.func10
abbrev i_wire_GetVarint : FuncId := 11
theorem F_wire_GetVarint : Try.prog.funcs[i_wire_GetVarint]? = some Try.f11 := Try.func11
abbrev i_cartoucheref1_PutVarint : FuncId := 12
theorem F_cartoucheref1_PutVarint : Try.prog.funcs[i_cartoucheref1_PutVarint]? = some Try.f12 := Try.func12
abbrev i_cartouchelaw1_awake : FuncId := 13
theorem F_cartouchelaw1_awake : Try.prog.funcs[i_cartouchelaw1_awake]? = some Try.f13 := Try.func13
abbrev i_cartouchelaw1_same : FuncId := 14
theorem F_cartouchelaw1_same : Try.prog.funcs[i_cartouchelaw1_same]? = some Try.f14 := Try.func14
abbrev i_wire_PutVarint : FuncId := 15
theorem F_wire_PutVarint : Try.prog.funcs[i_wire_PutVarint]? = some Try.f15 := Try.func15
abbrev i_wire_Size : FuncId := 16
theorem F_wire_Size : Try.prog.funcs[i_wire_Size]? = some Try.f16 := Try.func16
abbrev i_wire_ZigZag : FuncId := 17
theorem F_wire_ZigZag : Try.prog.funcs[i_wire_ZigZag]? = some Try.f17 := Try.func17
abbrev i_cartoucheref1_ZigZag : FuncId := 18
theorem F_cartoucheref1_ZigZag : Try.prog.funcs[i_cartoucheref1_ZigZag]? = some Try.f18 := Try.func18
abbrev i_wire_ZagZig : FuncId := 19
theorem F_wire_ZagZig : Try.prog.funcs[i_wire_ZagZig]? = some Try.f19 := Try.func19
abbrev i_cartoucheref1_ZagZig : FuncId := 20
theorem F_cartoucheref1_ZagZig : Try.prog.funcs[i_cartoucheref1_ZagZig]? = some Try.f20 := Try.func20
abbrev i_cartoucheref1_GetVarint : FuncId := 21
theorem F_cartoucheref1_GetVarint : Try.prog.funcs[i_cartoucheref1_GetVarint]? = some Try.f21 := Try.func21
abbrev i_wire_PutTag : FuncId := 22
theorem F_wire_PutTag : Try.prog.funcs[i_wire_PutTag]? = some Try.f22 := Try.func22
abbrev i_wire_GetTag : FuncId := 23
theorem F_wire_GetTag : Try.prog.funcs[i_wire_GetTag]? = some Try.f23 := Try.func23
abbrev i_cartoucheref1_PutTag : FuncId := 24
theorem F_cartoucheref1_PutTag : Try.prog.funcs[i_cartoucheref1_PutTag]? = some Try.f24 := Try.func24
abbrev i_cartoucheref1_GetTag : FuncId := 25
theorem F_cartoucheref1_GetTag : Try.prog.funcs[i_cartoucheref1_GetTag]? = some Try.f25 := Try.func25
abbrev i_wire_GetFix32 : FuncId := 26
theorem F_wire_GetFix32 : Try.prog.funcs[i_wire_GetFix32]? = some Try.f26 := Try.func26
abbrev i_wire_GetFix64 : FuncId := 27
theorem F_wire_GetFix64 : Try.prog.funcs[i_wire_GetFix64]? = some Try.f27 := Try.func27
abbrev i_wire_GetChunk : FuncId := 28
theorem F_wire_GetChunk : Try.prog.funcs[i_wire_GetChunk]? = some Try.f28 := Try.func28
abbrev i_wire_PutFix32 : FuncId := 29
theorem F_wire_PutFix32 : Try.prog.funcs[i_wire_PutFix32]? = some Try.f29 := Try.func29
abbrev i_cartoucheref1_PutWord : FuncId := 30
theorem F_cartoucheref1_PutWord : Try.prog.funcs[i_cartoucheref1_PutWord]? = some Try.f30 := Try.func30
abbrev i_wire_PutFix64 : FuncId := 31
theorem F_wire_PutFix64 : Try.prog.funcs[i_wire_PutFix64]? = some Try.f31 := Try.func31
abbrev i_wire_PutChunk : FuncId := 32
theorem F_wire_PutChunk : Try.prog.funcs[i_wire_PutChunk]? = some Try.f32 := Try.func32
abbrev i_cartoucheref1_PutChunk : FuncId := 33
theorem F_cartoucheref1_PutChunk : Try.prog.funcs[i_cartoucheref1_PutChunk]? = some Try.f33 := Try.func33
abbrev i_cartoucheref1_Word : FuncId := 34
theorem F_cartoucheref1_Word : Try.prog.funcs[i_cartoucheref1_Word]? = some Try.f34 := Try.func34
abbrev i_cartoucheref1_GetChunk : FuncId := 35
theorem F_cartoucheref1_GetChunk : Try.prog.funcs[i_cartoucheref1_GetChunk]? = some Try.f35 := Try.func35
abbrev i_wire_Split : FuncId := 36
theorem F_wire_Split : Try.prog.funcs[i_wire_Split]? = some Try.f36 := Try.func36
abbrev i_cartoucheref1_List : FuncId := 37
theorem F_cartoucheref1_List : Try.prog.funcs[i_cartoucheref1_List]? = some Try.f37 := Try.func37
abbrev i_wire_PutEntry : FuncId := 38
theorem F_wire_PutEntry : Try.prog.funcs[i_wire_PutEntry]? = some Try.f38 := Try.func38
abbrev i_wire_GetEntry : FuncId := 39
theorem F_wire_GetEntry : Try.prog.funcs[i_wire_GetEntry]? = some Try.f39 := Try.func39
abbrev i_cartoucheref1_Same : FuncId := 40
theorem F_cartoucheref1_Same : Try.prog.funcs[i_cartoucheref1_Same]? = some Try.f40 := Try.func40
abbrev i_cartouchelaw1_reads : FuncId := 41
theorem F_cartouchelaw1_reads : Try.prog.funcs[i_cartouchelaw1_reads]? = some Try.f41 := Try.func41
abbrev i_wire_Join : FuncId := 42
theorem F_wire_Join : Try.prog.funcs[i_wire_Join]? = some Try.f42 := Try.func42
abbrev i_cartoucheref1_PutEntry : FuncId := 43
theorem F_cartoucheref1_PutEntry : Try.prog.funcs[i_cartoucheref1_PutEntry]? = some Try.f43 := Try.func43
abbrev i_cartoucheref1_Split : FuncId := 44
theorem F_cartoucheref1_Split : Try.prog.funcs[i_cartoucheref1_Split]? = some Try.f44 := Try.func44
abbrev i_cartoucheref1_GetEntry : FuncId := 45
theorem F_cartoucheref1_GetEntry : Try.prog.funcs[i_cartoucheref1_GetEntry]? = some Try.f45 := Try.func45
abbrev i_wire_place : FuncId := 46
theorem F_wire_place : Try.prog.funcs[i_wire_place]? = some Try.f46 := Try.func46
abbrev i_wire_varint : FuncId := 47
theorem F_wire_varint : Try.prog.funcs[i_wire_varint]? = some Try.f47 := Try.func47
abbrev i_bits_Len64 : FuncId := 48
theorem F_bits_Len64 : Try.prog.funcs[i_bits_Len64]? = some Try.f48 := Try.func48
abbrev i_wire_isKind : FuncId := 49
theorem F_wire_isKind : Try.prog.funcs[i_wire_isKind]? = some Try.f49 := Try.func49
abbrev i_cartoucheref1_IsKind : FuncId := 50
theorem F_cartoucheref1_IsKind : Try.prog.funcs[i_cartoucheref1_IsKind]? = some Try.f50 := Try.func50
abbrev i_wire_read : FuncId := 51
theorem F_wire_read : Try.prog.funcs[i_wire_read]? = some Try.f51 := Try.func51
abbrev i_wire_Span : FuncId := 52
theorem F_wire_Span : Try.prog.funcs[i_wire_Span]? = some Try.f52 := Try.func52
abbrev i_wire_word : FuncId := 53
theorem F_wire_word : Try.prog.funcs[i_wire_word]? = some Try.f53 := Try.func53
abbrev i_cartoucheref1_Fine : FuncId := 54
theorem F_cartoucheref1_Fine : Try.prog.funcs[i_cartoucheref1_Fine]? = some Try.f54 := Try.func54
abbrev i_cartoucheref1_Rest : FuncId := 55
theorem F_cartoucheref1_Rest : Try.prog.funcs[i_cartoucheref1_Rest]? = some Try.f55 := Try.func55

/-! cartouche/cartouchelaw1.WireVarints -/
def A_cartouchelaw1_WireVarints : AFn := ⟨(.seq (.region [⟨some 6, none, .mov (.c (.bool false))⟩])
    (.seq (.region [⟨some 15, none, .mov (.t 1)⟩,
      ⟨some 16, none, .mov (.t 2)⟩,
      ⟨some 17, none, .call i_wire_GetVarint [.t 15, .t 16]⟩,
      ⟨some 14, none, .mov (.t 17)⟩,
      ⟨some 18, none, .ext 0 (.t 14)⟩,
      ⟨some 19, none, .ext 1 (.t 14)⟩,
      ⟨some 20, none, .ext 2 (.t 14)⟩,
      ⟨some 7, none, .mov (.t 18)⟩,
      ⟨some 8, none, .mov (.t 19)⟩,
      ⟨some 9, none, .mov (.t 20)⟩])
    (.seq (.region [⟨some 21, none, .mov (.t 0)⟩,
      ⟨some 22, none, .call i_cartoucheref1_PutVarint [.t 21]⟩,
      ⟨some 10, none, .mov (.t 22)⟩])
    (.seq (.seq (.region [⟨some 23, none, .call i_cartouchelaw1_awake []⟩,
      ⟨some 24, none, .un .not (.t 23)⟩,
      ⟨some 25, none, .mov (.t 24)⟩,
      ⟨some 26, some (25, false), .mov (.t 0)⟩,
      ⟨some 27, some (25, false), .call i_wire_PutVarint [.t 26]⟩,
      ⟨some 28, some (25, false), .mov (.t 10)⟩,
      ⟨some 29, some (25, false), .call i_cartouchelaw1_same [.t 27, .t 28]⟩,
      ⟨some 30, some (25, false), .un .not (.t 29)⟩,
      ⟨some 31, none, .pickb (.t 25) (.c (.bool true)) (.t 30)⟩,
      ⟨some 32, none, .mov (.t 31)⟩,
      ⟨some 33, some (32, false), .mov (.t 0)⟩,
      ⟨some 34, some (32, false), .call i_wire_Size [.t 33]⟩,
      ⟨some 35, some (32, false), .mov (.t 10)⟩,
      ⟨some 36, some (32, false), .len false (.t 35)⟩,
      ⟨some 37, some (32, false), .bin false .neq (.t 34) (.t 36)⟩,
      ⟨some 38, none, .pickb (.t 32) (.c (.bool true)) (.t 37)⟩,
      ⟨some 39, none, .mov (.t 38)⟩,
      ⟨some 40, some (39, false), .mov (.t 0)⟩,
      ⟨some 41, some (39, false), .conv .i64 (.t 40)⟩,
      ⟨some 42, some (39, false), .call i_wire_ZigZag [.t 41]⟩,
      ⟨some 43, some (39, false), .mov (.t 0)⟩,
      ⟨some 44, some (39, false), .conv .i64 (.t 43)⟩,
      ⟨some 45, some (39, false), .call i_cartoucheref1_ZigZag [.t 44]⟩,
      ⟨some 46, some (39, false), .bin false .neq (.t 42) (.t 45)⟩,
      ⟨some 47, none, .pickb (.t 39) (.c (.bool true)) (.t 46)⟩,
      ⟨some 48, none, .mov (.t 47)⟩,
      ⟨some 49, some (48, false), .mov (.t 0)⟩,
      ⟨some 50, some (48, false), .call i_wire_ZagZig [.t 49]⟩,
      ⟨some 51, some (48, false), .mov (.t 0)⟩,
      ⟨some 52, some (48, false), .call i_cartoucheref1_ZagZig [.t 51]⟩,
      ⟨some 53, some (48, false), .bin false .neq (.t 50) (.t 52)⟩,
      ⟨some 54, none, .pickb (.t 48) (.c (.bool true)) (.t 53)⟩])
    (.cond (.t 54) (.seq (.region [⟨some 6, none, .mov (.c (.bool false))⟩])
    .ret)
    .skip))
    (.seq (.seq (.region [⟨some 55, none, .mov (.t 2)⟩,
      ⟨some 56, none, .bin false .lss (.t 55) (.c (.int .i64 0))⟩,
      ⟨some 57, none, .mov (.t 56)⟩,
      ⟨some 58, some (57, false), .mov (.t 2)⟩,
      ⟨some 59, some (57, false), .mov (.t 1)⟩,
      ⟨some 60, some (57, false), .len false (.t 59)⟩,
      ⟨some 61, some (57, false), .bin false .gtr (.t 58) (.t 60)⟩,
      ⟨some 62, none, .pickb (.t 57) (.c (.bool true)) (.t 61)⟩])
    (.cond (.t 62) (.seq (.region [⟨some 63, none, .mov (.t 9)⟩,
      ⟨some 64, none, .bin false .eql (.t 63) (.c (.int .i64 18))⟩,
      ⟨some 65, none, .mov (.t 64)⟩,
      ⟨some 66, some (65, true), .mov (.t 7)⟩,
      ⟨some 67, some (65, true), .bin false .eql (.t 66) (.c (.int .u64 0))⟩,
      ⟨some 68, none, .pickb (.t 65) (.t 67) (.c (.bool false))⟩,
      ⟨some 69, none, .mov (.t 68)⟩,
      ⟨some 70, some (69, true), .mov (.t 8)⟩,
      ⟨some 71, some (69, true), .bin false .eql (.t 70) (.c (.int .i64 0))⟩,
      ⟨some 72, none, .pickb (.t 69) (.t 71) (.c (.bool false))⟩,
      ⟨some 6, none, .mov (.t 72)⟩])
    .ret)
    .skip))
    (.seq (.region [⟨some 74, none, .mov (.t 1)⟩,
      ⟨some 75, none, .mov (.t 2)⟩,
      ⟨some 76, none, .call i_cartoucheref1_GetVarint [.t 74, .t 75]⟩,
      ⟨some 73, none, .mov (.t 76)⟩,
      ⟨some 77, none, .ext 0 (.t 73)⟩,
      ⟨some 78, none, .ext 1 (.t 73)⟩,
      ⟨some 79, none, .ext 2 (.t 73)⟩,
      ⟨some 11, none, .mov (.t 77)⟩,
      ⟨some 12, none, .mov (.t 78)⟩,
      ⟨some 13, none, .mov (.t 79)⟩])
    (.seq (.region [⟨some 80, none, .mov (.t 7)⟩,
      ⟨some 81, none, .mov (.t 11)⟩,
      ⟨some 82, none, .bin false .eql (.t 80) (.t 81)⟩,
      ⟨some 83, none, .mov (.t 82)⟩,
      ⟨some 84, some (83, true), .mov (.t 8)⟩,
      ⟨some 85, some (83, true), .mov (.t 12)⟩,
      ⟨some 86, some (83, true), .bin false .eql (.t 84) (.t 85)⟩,
      ⟨some 87, none, .pickb (.t 83) (.t 86) (.c (.bool false))⟩,
      ⟨some 88, none, .mov (.t 87)⟩,
      ⟨some 89, some (88, true), .mov (.t 9)⟩,
      ⟨some 90, some (88, true), .mov (.t 13)⟩,
      ⟨some 91, some (88, true), .bin false .eql (.t 89) (.t 90)⟩,
      ⟨some 92, none, .pickb (.t 88) (.t 91) (.c (.bool false))⟩,
      ⟨some 6, none, .mov (.t 92)⟩])
    .ret))))))), [.tmp 6]⟩
theorem T_cartouchelaw1_WireVarints : trFn Try.prog [] Try.f3 = some A_cartouchelaw1_WireVarints := by kernel_rfl
theorem L_cartouchelaw1_WireVarints : 3 ≤ Try.f3.ntmps := by decide

/-! cartouche/cartouchelaw1.WireTags -/
def A_cartouchelaw1_WireTags : AFn := ⟨(.seq (.region [⟨some 8, none, .mov (.c (.bool false))⟩])
    (.seq (.region [⟨some 22, none, .mov (.t 0)⟩,
      ⟨some 23, none, .mov (.t 1)⟩,
      ⟨some 24, none, .call i_wire_PutTag [.t 22, .t 23]⟩,
      ⟨some 21, none, .mov (.t 24)⟩,
      ⟨some 25, none, .ext 0 (.t 21)⟩,
      ⟨some 26, none, .ext 1 (.t 21)⟩,
      ⟨some 9, none, .mov (.t 25)⟩,
      ⟨some 10, none, .mov (.t 26)⟩])
    (.seq (.region [⟨some 28, none, .mov (.t 2)⟩,
      ⟨some 29, none, .mov (.t 3)⟩,
      ⟨some 30, none, .call i_wire_GetTag [.t 28, .t 29]⟩,
      ⟨some 27, none, .mov (.t 30)⟩,
      ⟨some 31, none, .ext 0 (.t 27)⟩,
      ⟨some 32, none, .ext 1 (.t 27)⟩,
      ⟨some 33, none, .ext 2 (.t 27)⟩,
      ⟨some 34, none, .ext 3 (.t 27)⟩,
      ⟨some 11, none, .mov (.t 31)⟩,
      ⟨some 12, none, .mov (.t 32)⟩,
      ⟨some 13, none, .mov (.t 33)⟩,
      ⟨some 14, none, .mov (.t 34)⟩])
    (.seq (.region [⟨some 36, none, .mov (.t 0)⟩,
      ⟨some 37, none, .mov (.t 1)⟩,
      ⟨some 38, none, .call i_cartoucheref1_PutTag [.t 36, .t 37]⟩,
      ⟨some 35, none, .mov (.t 38)⟩,
      ⟨some 39, none, .ext 0 (.t 35)⟩,
      ⟨some 40, none, .ext 1 (.t 35)⟩,
      ⟨some 15, none, .mov (.t 39)⟩,
      ⟨some 16, none, .mov (.t 40)⟩])
    (.seq (.seq (.region [⟨some 41, none, .call i_cartouchelaw1_awake []⟩,
      ⟨some 42, none, .un .not (.t 41)⟩,
      ⟨some 43, none, .mov (.t 42)⟩,
      ⟨some 44, some (43, false), .mov (.t 10)⟩,
      ⟨some 45, some (43, false), .mov (.t 16)⟩,
      ⟨some 46, some (43, false), .bin false .neq (.t 44) (.t 45)⟩,
      ⟨some 47, none, .pickb (.t 43) (.c (.bool true)) (.t 46)⟩,
      ⟨some 48, none, .mov (.t 47)⟩,
      ⟨some 49, some (48, false), .mov (.t 9)⟩,
      ⟨some 50, some (48, false), .mov (.t 15)⟩,
      ⟨some 51, some (48, false), .call i_cartouchelaw1_same [.t 49, .t 50]⟩,
      ⟨some 52, some (48, false), .un .not (.t 51)⟩,
      ⟨some 53, none, .pickb (.t 48) (.c (.bool true)) (.t 52)⟩])
    (.cond (.t 53) (.seq (.region [⟨some 8, none, .mov (.c (.bool false))⟩])
    .ret)
    .skip))
    (.seq (.seq (.region [⟨some 54, none, .mov (.t 3)⟩,
      ⟨some 55, none, .bin false .lss (.t 54) (.c (.int .i64 0))⟩,
      ⟨some 56, none, .mov (.t 55)⟩,
      ⟨some 57, some (56, false), .mov (.t 3)⟩,
      ⟨some 58, some (56, false), .mov (.t 2)⟩,
      ⟨some 59, some (56, false), .len false (.t 58)⟩,
      ⟨some 60, some (56, false), .bin false .gtr (.t 57) (.t 59)⟩,
      ⟨some 61, none, .pickb (.t 56) (.c (.bool true)) (.t 60)⟩])
    (.cond (.t 61) (.seq (.region [⟨some 62, none, .mov (.t 14)⟩,
      ⟨some 63, none, .bin false .eql (.t 62) (.c (.int .i64 18))⟩,
      ⟨some 64, none, .mov (.t 63)⟩,
      ⟨some 65, some (64, true), .mov (.t 11)⟩,
      ⟨some 66, some (64, true), .bin false .eql (.t 65) (.c (.int .i64 0))⟩,
      ⟨some 67, none, .pickb (.t 64) (.t 66) (.c (.bool false))⟩,
      ⟨some 68, none, .mov (.t 67)⟩,
      ⟨some 69, some (68, true), .mov (.t 12)⟩,
      ⟨some 70, some (68, true), .bin false .eql (.t 69) (.c (.int .i64 0))⟩,
      ⟨some 71, none, .pickb (.t 68) (.t 70) (.c (.bool false))⟩,
      ⟨some 72, none, .mov (.t 71)⟩,
      ⟨some 73, some (72, true), .mov (.t 13)⟩,
      ⟨some 74, some (72, true), .bin false .eql (.t 73) (.c (.int .i64 0))⟩,
      ⟨some 75, none, .pickb (.t 72) (.t 74) (.c (.bool false))⟩,
      ⟨some 8, none, .mov (.t 75)⟩])
    .ret)
    .skip))
    (.seq (.region [⟨some 77, none, .mov (.t 2)⟩,
      ⟨some 78, none, .mov (.t 3)⟩,
      ⟨some 79, none, .call i_cartoucheref1_GetTag [.t 77, .t 78]⟩,
      ⟨some 76, none, .mov (.t 79)⟩,
      ⟨some 80, none, .ext 0 (.t 76)⟩,
      ⟨some 81, none, .ext 1 (.t 76)⟩,
      ⟨some 82, none, .ext 2 (.t 76)⟩,
      ⟨some 83, none, .ext 3 (.t 76)⟩,
      ⟨some 17, none, .mov (.t 80)⟩,
      ⟨some 18, none, .mov (.t 81)⟩,
      ⟨some 19, none, .mov (.t 82)⟩,
      ⟨some 20, none, .mov (.t 83)⟩])
    (.seq (.region [⟨some 84, none, .mov (.t 11)⟩,
      ⟨some 85, none, .mov (.t 17)⟩,
      ⟨some 86, none, .bin false .eql (.t 84) (.t 85)⟩,
      ⟨some 87, none, .mov (.t 86)⟩,
      ⟨some 88, some (87, true), .mov (.t 12)⟩,
      ⟨some 89, some (87, true), .mov (.t 18)⟩,
      ⟨some 90, some (87, true), .bin false .eql (.t 88) (.t 89)⟩,
      ⟨some 91, none, .pickb (.t 87) (.t 90) (.c (.bool false))⟩,
      ⟨some 92, none, .mov (.t 91)⟩,
      ⟨some 93, some (92, true), .mov (.t 13)⟩,
      ⟨some 94, some (92, true), .mov (.t 19)⟩,
      ⟨some 95, some (92, true), .bin false .eql (.t 93) (.t 94)⟩,
      ⟨some 96, none, .pickb (.t 92) (.t 95) (.c (.bool false))⟩,
      ⟨some 97, none, .mov (.t 96)⟩,
      ⟨some 98, some (97, true), .mov (.t 14)⟩,
      ⟨some 99, some (97, true), .mov (.t 20)⟩,
      ⟨some 100, some (97, true), .bin false .eql (.t 98) (.t 99)⟩,
      ⟨some 101, none, .pickb (.t 97) (.t 100) (.c (.bool false))⟩,
      ⟨some 8, none, .mov (.t 101)⟩])
    .ret)))))))), [.tmp 8]⟩
theorem T_cartouchelaw1_WireTags : trFn Try.prog [] Try.f4 = some A_cartouchelaw1_WireTags := by kernel_rfl
theorem L_cartouchelaw1_WireTags : 4 ≤ Try.f4.ntmps := by decide

/-! cartouche/cartouchelaw1.WireWords -/
def A_cartouchelaw1_WireWords : AFn := ⟨(.seq (.region [⟨some 6, none, .mov (.c (.bool false))⟩])
    (.seq (.region [⟨some 26, none, .mov (.t 1)⟩,
      ⟨some 27, none, .mov (.t 2)⟩,
      ⟨some 28, none, .call i_wire_GetFix32 [.t 26, .t 27]⟩,
      ⟨some 25, none, .mov (.t 28)⟩,
      ⟨some 29, none, .ext 0 (.t 25)⟩,
      ⟨some 30, none, .ext 1 (.t 25)⟩,
      ⟨some 31, none, .ext 2 (.t 25)⟩,
      ⟨some 7, none, .mov (.t 29)⟩,
      ⟨some 8, none, .mov (.t 30)⟩,
      ⟨some 9, none, .mov (.t 31)⟩])
    (.seq (.region [⟨some 33, none, .mov (.t 1)⟩,
      ⟨some 34, none, .mov (.t 2)⟩,
      ⟨some 35, none, .call i_wire_GetFix64 [.t 33, .t 34]⟩,
      ⟨some 32, none, .mov (.t 35)⟩,
      ⟨some 36, none, .ext 0 (.t 32)⟩,
      ⟨some 37, none, .ext 1 (.t 32)⟩,
      ⟨some 38, none, .ext 2 (.t 32)⟩,
      ⟨some 10, none, .mov (.t 36)⟩,
      ⟨some 11, none, .mov (.t 37)⟩,
      ⟨some 12, none, .mov (.t 38)⟩])
    (.seq (.region [⟨some 40, none, .mov (.t 1)⟩,
      ⟨some 41, none, .mov (.t 2)⟩,
      ⟨some 42, none, .call i_wire_GetChunk [.t 40, .t 41]⟩,
      ⟨some 39, none, .mov (.t 42)⟩,
      ⟨some 43, none, .ext 0 (.t 39)⟩,
      ⟨some 44, none, .ext 1 (.t 39)⟩,
      ⟨some 45, none, .ext 2 (.t 39)⟩,
      ⟨some 13, none, .mov (.t 43)⟩,
      ⟨some 14, none, .mov (.t 44)⟩,
      ⟨some 15, none, .mov (.t 45)⟩])
    (.seq (.seq (.region [⟨some 46, none, .call i_cartouchelaw1_awake []⟩,
      ⟨some 47, none, .un .not (.t 46)⟩,
      ⟨some 48, none, .mov (.t 47)⟩,
      ⟨some 49, some (48, false), .mov (.t 0)⟩,
      ⟨some 50, some (48, false), .conv .u32 (.t 49)⟩,
      ⟨some 51, some (48, false), .call i_wire_PutFix32 [.t 50]⟩,
      ⟨some 52, some (48, false), .mov (.t 0)⟩,
      ⟨some 53, some (48, false), .call i_cartoucheref1_PutWord [.t 52, .c (.int .i64 4)]⟩,
      ⟨some 54, some (48, false), .call i_cartouchelaw1_same [.t 51, .t 53]⟩,
      ⟨some 55, some (48, false), .un .not (.t 54)⟩,
      ⟨some 56, none, .pickb (.t 48) (.c (.bool true)) (.t 55)⟩,
      ⟨some 57, none, .mov (.t 56)⟩,
      ⟨some 58, some (57, false), .mov (.t 0)⟩,
      ⟨some 59, some (57, false), .call i_wire_PutFix64 [.t 58]⟩,
      ⟨some 60, some (57, false), .mov (.t 0)⟩,
      ⟨some 61, some (57, false), .call i_cartoucheref1_PutWord [.t 60, .c (.int .i64 8)]⟩,
      ⟨some 62, some (57, false), .call i_cartouchelaw1_same [.t 59, .t 61]⟩,
      ⟨some 63, some (57, false), .un .not (.t 62)⟩,
      ⟨some 64, none, .pickb (.t 57) (.c (.bool true)) (.t 63)⟩,
      ⟨some 65, none, .mov (.t 64)⟩,
      ⟨some 66, some (65, false), .mov (.t 1)⟩,
      ⟨some 67, some (65, false), .call i_wire_PutChunk [.t 66]⟩,
      ⟨some 68, some (65, false), .mov (.t 1)⟩,
      ⟨some 69, some (65, false), .call i_cartoucheref1_PutChunk [.t 68]⟩,
      ⟨some 70, some (65, false), .call i_cartouchelaw1_same [.t 67, .t 69]⟩,
      ⟨some 71, some (65, false), .un .not (.t 70)⟩,
      ⟨some 72, none, .pickb (.t 65) (.c (.bool true)) (.t 71)⟩])
    (.cond (.t 72) (.seq (.region [⟨some 6, none, .mov (.c (.bool false))⟩])
    .ret)
    .skip))
    (.seq (.seq (.region [⟨some 73, none, .mov (.t 2)⟩,
      ⟨some 74, none, .bin false .lss (.t 73) (.c (.int .i64 0))⟩,
      ⟨some 75, none, .mov (.t 74)⟩,
      ⟨some 76, some (75, false), .mov (.t 2)⟩,
      ⟨some 77, some (75, false), .mov (.t 1)⟩,
      ⟨some 78, some (75, false), .len false (.t 77)⟩,
      ⟨some 79, some (75, false), .bin false .gtr (.t 76) (.t 78)⟩,
      ⟨some 80, none, .pickb (.t 75) (.c (.bool true)) (.t 79)⟩])
    (.cond (.t 80) (.seq (.region [⟨some 81, none, .mov (.t 9)⟩,
      ⟨some 82, none, .bin false .eql (.t 81) (.c (.int .i64 18))⟩,
      ⟨some 83, none, .mov (.t 82)⟩,
      ⟨some 84, some (83, true), .mov (.t 7)⟩,
      ⟨some 85, some (83, true), .bin false .eql (.t 84) (.c (.int .u32 0))⟩,
      ⟨some 86, none, .pickb (.t 83) (.t 85) (.c (.bool false))⟩,
      ⟨some 87, none, .mov (.t 86)⟩,
      ⟨some 88, some (87, true), .mov (.t 8)⟩,
      ⟨some 89, some (87, true), .bin false .eql (.t 88) (.c (.int .i64 0))⟩,
      ⟨some 90, none, .pickb (.t 87) (.t 89) (.c (.bool false))⟩,
      ⟨some 91, none, .mov (.t 90)⟩,
      ⟨some 92, some (91, true), .mov (.t 12)⟩,
      ⟨some 93, some (91, true), .bin false .eql (.t 92) (.c (.int .i64 18))⟩,
      ⟨some 94, none, .pickb (.t 91) (.t 93) (.c (.bool false))⟩,
      ⟨some 95, none, .mov (.t 94)⟩,
      ⟨some 96, some (95, true), .mov (.t 10)⟩,
      ⟨some 97, some (95, true), .bin false .eql (.t 96) (.c (.int .u64 0))⟩,
      ⟨some 98, none, .pickb (.t 95) (.t 97) (.c (.bool false))⟩,
      ⟨some 99, none, .mov (.t 98)⟩,
      ⟨some 100, some (99, true), .mov (.t 11)⟩,
      ⟨some 101, some (99, true), .bin false .eql (.t 100) (.c (.int .i64 0))⟩,
      ⟨some 102, none, .pickb (.t 99) (.t 101) (.c (.bool false))⟩,
      ⟨some 103, none, .mov (.t 102)⟩,
      ⟨some 104, some (103, true), .mov (.t 15)⟩,
      ⟨some 105, some (103, true), .bin false .eql (.t 104) (.c (.int .i64 18))⟩,
      ⟨some 106, none, .pickb (.t 103) (.t 105) (.c (.bool false))⟩,
      ⟨some 107, none, .mov (.t 106)⟩,
      ⟨some 108, some (107, true), .mov (.t 13)⟩,
      ⟨some 109, some (107, true), .len false (.t 108)⟩,
      ⟨some 110, some (107, true), .bin false .eql (.t 109) (.c (.int .i64 0))⟩,
      ⟨some 111, none, .pickb (.t 107) (.t 110) (.c (.bool false))⟩,
      ⟨some 112, none, .mov (.t 111)⟩,
      ⟨some 113, some (112, true), .mov (.t 14)⟩,
      ⟨some 114, some (112, true), .bin false .eql (.t 113) (.c (.int .i64 0))⟩,
      ⟨some 115, none, .pickb (.t 112) (.t 114) (.c (.bool false))⟩,
      ⟨some 6, none, .mov (.t 115)⟩])
    .ret)
    .skip))
    (.seq (.region [⟨some 117, none, .mov (.t 1)⟩,
      ⟨some 118, none, .mov (.t 2)⟩,
      ⟨some 119, none, .call i_cartoucheref1_Word [.t 117, .t 118, .c (.int .i64 4)]⟩,
      ⟨some 116, none, .mov (.t 119)⟩,
      ⟨some 120, none, .ext 0 (.t 116)⟩,
      ⟨some 121, none, .ext 1 (.t 116)⟩,
      ⟨some 122, none, .ext 2 (.t 116)⟩,
      ⟨some 16, none, .mov (.t 120)⟩,
      ⟨some 17, none, .mov (.t 121)⟩,
      ⟨some 18, none, .mov (.t 122)⟩])
    (.seq (.region [⟨some 124, none, .mov (.t 1)⟩,
      ⟨some 125, none, .mov (.t 2)⟩,
      ⟨some 126, none, .call i_cartoucheref1_Word [.t 124, .t 125, .c (.int .i64 8)]⟩,
      ⟨some 123, none, .mov (.t 126)⟩,
      ⟨some 127, none, .ext 0 (.t 123)⟩,
      ⟨some 128, none, .ext 1 (.t 123)⟩,
      ⟨some 129, none, .ext 2 (.t 123)⟩,
      ⟨some 19, none, .mov (.t 127)⟩,
      ⟨some 20, none, .mov (.t 128)⟩,
      ⟨some 21, none, .mov (.t 129)⟩])
    (.seq (.region [⟨some 131, none, .mov (.t 1)⟩,
      ⟨some 132, none, .mov (.t 2)⟩,
      ⟨some 133, none, .call i_cartoucheref1_GetChunk [.t 131, .t 132]⟩,
      ⟨some 130, none, .mov (.t 133)⟩,
      ⟨some 134, none, .ext 0 (.t 130)⟩,
      ⟨some 135, none, .ext 1 (.t 130)⟩,
      ⟨some 136, none, .ext 2 (.t 130)⟩,
      ⟨some 22, none, .mov (.t 134)⟩,
      ⟨some 23, none, .mov (.t 135)⟩,
      ⟨some 24, none, .mov (.t 136)⟩])
    (.seq (.region [⟨some 137, none, .mov (.t 7)⟩,
      ⟨some 138, none, .conv .u64 (.t 137)⟩,
      ⟨some 139, none, .mov (.t 16)⟩,
      ⟨some 140, none, .bin false .eql (.t 138) (.t 139)⟩,
      ⟨some 141, none, .mov (.t 140)⟩,
      ⟨some 142, some (141, true), .mov (.t 8)⟩,
      ⟨some 143, some (141, true), .mov (.t 17)⟩,
      ⟨some 144, some (141, true), .bin false .eql (.t 142) (.t 143)⟩,
      ⟨some 145, none, .pickb (.t 141) (.t 144) (.c (.bool false))⟩,
      ⟨some 146, none, .mov (.t 145)⟩,
      ⟨some 147, some (146, true), .mov (.t 9)⟩,
      ⟨some 148, some (146, true), .mov (.t 18)⟩,
      ⟨some 149, some (146, true), .bin false .eql (.t 147) (.t 148)⟩,
      ⟨some 150, none, .pickb (.t 146) (.t 149) (.c (.bool false))⟩,
      ⟨some 151, none, .mov (.t 150)⟩,
      ⟨some 152, some (151, true), .mov (.t 10)⟩,
      ⟨some 153, some (151, true), .mov (.t 19)⟩,
      ⟨some 154, some (151, true), .bin false .eql (.t 152) (.t 153)⟩,
      ⟨some 155, none, .pickb (.t 151) (.t 154) (.c (.bool false))⟩,
      ⟨some 156, none, .mov (.t 155)⟩,
      ⟨some 157, some (156, true), .mov (.t 11)⟩,
      ⟨some 158, some (156, true), .mov (.t 20)⟩,
      ⟨some 159, some (156, true), .bin false .eql (.t 157) (.t 158)⟩,
      ⟨some 160, none, .pickb (.t 156) (.t 159) (.c (.bool false))⟩,
      ⟨some 161, none, .mov (.t 160)⟩,
      ⟨some 162, some (161, true), .mov (.t 12)⟩,
      ⟨some 163, some (161, true), .mov (.t 21)⟩,
      ⟨some 164, some (161, true), .bin false .eql (.t 162) (.t 163)⟩,
      ⟨some 165, none, .pickb (.t 161) (.t 164) (.c (.bool false))⟩,
      ⟨some 166, none, .mov (.t 165)⟩,
      ⟨some 167, some (166, true), .mov (.t 13)⟩,
      ⟨some 168, some (166, true), .mov (.t 22)⟩,
      ⟨some 169, some (166, true), .call i_cartouchelaw1_same [.t 167, .t 168]⟩,
      ⟨some 170, none, .pickb (.t 166) (.t 169) (.c (.bool false))⟩,
      ⟨some 171, none, .mov (.t 170)⟩,
      ⟨some 172, some (171, true), .mov (.t 14)⟩,
      ⟨some 173, some (171, true), .mov (.t 23)⟩,
      ⟨some 174, some (171, true), .bin false .eql (.t 172) (.t 173)⟩,
      ⟨some 175, none, .pickb (.t 171) (.t 174) (.c (.bool false))⟩,
      ⟨some 176, none, .mov (.t 175)⟩,
      ⟨some 177, some (176, true), .mov (.t 15)⟩,
      ⟨some 178, some (176, true), .mov (.t 24)⟩,
      ⟨some 179, some (176, true), .bin false .eql (.t 177) (.t 178)⟩,
      ⟨some 180, none, .pickb (.t 176) (.t 179) (.c (.bool false))⟩,
      ⟨some 6, none, .mov (.t 180)⟩])
    .ret)))))))))), [.tmp 6]⟩
theorem T_cartouchelaw1_WireWords : trFn Try.prog [] Try.f5 = some A_cartouchelaw1_WireWords := by kernel_rfl
theorem L_cartouchelaw1_WireWords : 3 ≤ Try.f5.ntmps := by decide

/-! cartouche/cartouchelaw1.WireKept -/
def A_cartouchelaw1_WireKept : AFn := ⟨(.seq (.region [⟨some 4, none, .mov (.c (.bool false))⟩])
    (.seq (.seq (.region [⟨some 22, none, .call i_cartouchelaw1_awake []⟩,
      ⟨some 23, none, .un .not (.t 22)⟩])
    (.cond (.t 23) (.seq (.region [⟨some 4, none, .mov (.c (.bool false))⟩])
    .ret)
    .skip))
    (.seq (.region [⟨some 24, none, .blist 0 5 1⟩,
      ⟨some 25, none, .mov (.t 0)⟩,
      ⟨some 26, none, .app 0 5 1 1 (.t 24) (.t 25)⟩,
      ⟨some 27, none, .bslice 1 [.c (.int .u8 201)]⟩,
      ⟨some 28, none, .app 0 5 1 1 (.t 26) (.t 27)⟩,
      ⟨some 29, none, .mov (.t 0)⟩,
      ⟨some 30, none, .len false (.t 29)⟩,
      ⟨some 31, none, .slc 1 (.t 28) none (some (.t 30)) none⟩,
      ⟨some 5, none, .mov (.t 31)⟩])
    (.seq (.region [⟨some 33, none, .mov (.t 5)⟩,
      ⟨some 34, none, .mov (.t 1)⟩,
      ⟨some 35, none, .call i_wire_GetChunk [.t 33, .t 34]⟩,
      ⟨some 32, none, .mov (.t 35)⟩,
      ⟨some 36, none, .ext 0 (.t 32)⟩,
      ⟨some 37, none, .ext 1 (.t 32)⟩,
      ⟨some 38, none, .ext 2 (.t 32)⟩,
      ⟨some 6, none, .mov (.t 36)⟩,
      ⟨some 7, none, .mov (.t 37)⟩,
      ⟨some 8, none, .mov (.t 38)⟩])
    (.seq (.region [⟨some 39, none, .mov (.t 5)⟩,
      ⟨some 40, none, .call i_wire_PutChunk [.t 39]⟩,
      ⟨some 9, none, .mov (.t 40)⟩])
    (.seq (.region [⟨some 42, none, .mov (.t 5)⟩,
      ⟨some 43, none, .call i_wire_Split [.t 42]⟩,
      ⟨some 41, none, .mov (.t 43)⟩,
      ⟨some 44, none, .ext 0 (.t 41)⟩,
      ⟨some 45, none, .ext 1 (.t 41)⟩,
      ⟨some 10, none, .mov (.t 44)⟩,
      ⟨some 11, none, .mov (.t 45)⟩])
    (.seq (.region [⟨some 47, none, .mov (.t 5)⟩,
      ⟨some 48, none, .call i_wire_Split [.t 47]⟩,
      ⟨some 46, none, .mov (.t 48)⟩,
      ⟨some 49, none, .ext 0 (.t 46)⟩,
      ⟨some 50, none, .ext 1 (.t 46)⟩,
      ⟨some 12, none, .mov (.t 49)⟩,
      ⟨some 13, none, .mov (.t 50)⟩])
    (.seq (.seq (.region [⟨some 14, none, .mov (.c (.int .i64 0))⟩])
    (.block 0 (.loop (.seq (.seq (.region [⟨some 51, none, .mov (.t 14)⟩,
      ⟨some 52, none, .mov (.t 6)⟩,
      ⟨some 53, none, .len false (.t 52)⟩,
      ⟨some 54, none, .bin false .lss (.t 51) (.t 53)⟩])
    (.cond (.t 54) .skip
    (.exit 0)))
    (.seq (.block 1 (.region [⟨some 57, none, .mov (.t 6)⟩,
      ⟨some 58, none, .mov (.t 14)⟩,
      ⟨some 59, none, .idxA 1 (.t 57) (.t 58)⟩,
      ⟨none, none, .store 1 (.t 59) (.c (.int .u8 99))⟩]))
    (.region [⟨some 55, none, .mov (.t 14)⟩,
      ⟨some 56, none, .bin false .add (.t 55) (.c (.int .i64 1))⟩,
      ⟨some 14, none, .mov (.t 56)⟩]))))))
    (.seq (.region [⟨some 60, none, .mov (.t 6)⟩,
      ⟨some 61, none, .bslice 1 [.c (.int .u8 98), .c (.int .u8 97)]⟩,
      ⟨some 62, none, .app 1 5 1 1 (.t 60) (.t 61)⟩,
      ⟨some 6, none, .mov (.t 62)⟩])
    (.seq (.seq (.region [⟨some 15, none, .mov (.c (.int .i64 0))⟩])
    (.block 2 (.loop (.seq (.seq (.region [⟨some 63, none, .mov (.t 15)⟩,
      ⟨some 64, none, .mov (.t 9)⟩,
      ⟨some 65, none, .len false (.t 64)⟩,
      ⟨some 66, none, .bin false .lss (.t 63) (.t 65)⟩])
    (.cond (.t 66) .skip
    (.exit 2)))
    (.seq (.block 3 (.region [⟨some 69, none, .mov (.t 9)⟩,
      ⟨some 70, none, .mov (.t 15)⟩,
      ⟨some 71, none, .idxA 1 (.t 69) (.t 70)⟩,
      ⟨none, none, .store 1 (.t 71) (.c (.int .u8 96))⟩]))
    (.region [⟨some 67, none, .mov (.t 15)⟩,
      ⟨some 68, none, .bin false .add (.t 67) (.c (.int .i64 1))⟩,
      ⟨some 15, none, .mov (.t 68)⟩]))))))
    (.seq (.region [⟨some 72, none, .mov (.t 9)⟩,
      ⟨some 73, none, .bslice 1 [.c (.int .u8 95), .c (.int .u8 94)]⟩,
      ⟨some 74, none, .app 2 5 1 1 (.t 72) (.t 73)⟩,
      ⟨some 9, none, .mov (.t 74)⟩])
    (.seq (.seq (.region [⟨some 16, none, .mov (.c (.int .i64 0))⟩])
    (.block 4 (.loop (.seq (.seq (.region [⟨some 75, none, .mov (.t 16)⟩,
      ⟨some 76, none, .mov (.t 10)⟩,
      ⟨some 77, none, .len false (.t 76)⟩,
      ⟨some 78, none, .bin false .lss (.t 75) (.t 77)⟩])
    (.cond (.t 78) .skip
    (.exit 4)))
    (.seq (.block 5 (.seq (.seq (.region [⟨some 17, none, .mov (.c (.int .i64 0))⟩])
    (.block 6 (.loop (.seq (.seq (.region [⟨some 81, none, .mov (.t 17)⟩,
      ⟨some 82, none, .mov (.t 10)⟩,
      ⟨some 83, none, .mov (.t 16)⟩,
      ⟨some 84, none, .idxA 4 (.t 82) (.t 83)⟩,
      ⟨some 85, none, .fldA 3 1 false (.t 84)⟩,
      ⟨some 86, none, .load 1 false (.t 85)⟩,
      ⟨some 87, none, .len false (.t 86)⟩,
      ⟨some 88, none, .bin false .lss (.t 81) (.t 87)⟩])
    (.cond (.t 88) .skip
    (.exit 6)))
    (.seq (.block 7 (.region [⟨some 91, none, .mov (.t 10)⟩,
      ⟨some 92, none, .mov (.t 16)⟩,
      ⟨some 93, none, .idxA 4 (.t 91) (.t 92)⟩,
      ⟨some 94, none, .fldA 3 1 false (.t 93)⟩,
      ⟨some 95, none, .load 1 false (.t 94)⟩,
      ⟨some 96, none, .mov (.t 17)⟩,
      ⟨some 97, none, .mov (.t 16)⟩,
      ⟨some 98, none, .conv .u8 (.t 97)⟩,
      ⟨some 99, none, .idxA 1 (.t 95) (.t 96)⟩,
      ⟨none, none, .store 1 (.t 99) (.t 98)⟩]))
    (.region [⟨some 89, none, .mov (.t 17)⟩,
      ⟨some 90, none, .bin false .add (.t 89) (.c (.int .i64 1))⟩,
      ⟨some 17, none, .mov (.t 90)⟩]))))))
    (.region [⟨some 100, none, .mov (.t 10)⟩,
      ⟨some 101, none, .mov (.t 16)⟩,
      ⟨some 102, none, .mov (.t 10)⟩,
      ⟨some 103, none, .mov (.t 16)⟩,
      ⟨some 104, none, .idxA 4 (.t 102) (.t 103)⟩,
      ⟨some 105, none, .fldA 3 1 false (.t 104)⟩,
      ⟨some 106, none, .load 1 false (.t 105)⟩,
      ⟨some 107, none, .bslice 1 [.c (.int .u8 93)]⟩,
      ⟨some 108, none, .app 3 5 1 1 (.t 106) (.t 107)⟩,
      ⟨some 109, none, .idxA 4 (.t 100) (.t 101)⟩,
      ⟨some 110, none, .fldA 3 1 false (.t 109)⟩,
      ⟨none, none, .store 1 (.t 110) (.t 108)⟩])))
    (.region [⟨some 79, none, .mov (.t 16)⟩,
      ⟨some 80, none, .bin false .add (.t 79) (.c (.int .i64 1))⟩,
      ⟨some 16, none, .mov (.t 80)⟩]))))))
    (.seq (.seq (.region [⟨some 18, none, .mov (.c (.int .i64 0))⟩])
    (.block 8 (.loop (.seq (.seq (.region [⟨some 111, none, .mov (.t 18)⟩,
      ⟨some 112, none, .mov (.t 10)⟩,
      ⟨some 113, none, .len false (.t 112)⟩,
      ⟨some 114, none, .bin false .lss (.t 111) (.t 113)⟩])
    (.cond (.t 114) .skip
    (.exit 8)))
    (.seq (.block 9 (.seq (.region [⟨some 19, none, .mov (.c (.int .i64 0))⟩])
    (.block 10 (.loop (.seq (.seq (.region [⟨some 117, none, .mov (.t 19)⟩,
      ⟨some 118, none, .bin false .add (.t 117) (.c (.int .i64 1))⟩,
      ⟨some 119, none, .mov (.t 10)⟩,
      ⟨some 120, none, .mov (.t 18)⟩,
      ⟨some 121, none, .idxA 4 (.t 119) (.t 120)⟩,
      ⟨some 122, none, .fldA 3 1 false (.t 121)⟩,
      ⟨some 123, none, .load 1 false (.t 122)⟩,
      ⟨some 124, none, .len false (.t 123)⟩,
      ⟨some 125, none, .bin false .lss (.t 118) (.t 124)⟩])
    (.cond (.t 125) .skip
    (.exit 10)))
    (.seq (.block 11 (.seq (.region [⟨some 128, none, .mov (.t 10)⟩,
      ⟨some 129, none, .mov (.t 18)⟩,
      ⟨some 130, none, .idxA 4 (.t 128) (.t 129)⟩,
      ⟨some 131, none, .fldA 3 1 false (.t 130)⟩,
      ⟨some 132, none, .load 1 false (.t 131)⟩,
      ⟨some 133, none, .mov (.t 19)⟩,
      ⟨some 134, none, .idxA 1 (.t 132) (.t 133)⟩,
      ⟨some 135, none, .load 1 false (.t 134)⟩,
      ⟨some 136, none, .mov (.t 18)⟩,
      ⟨some 137, none, .conv .u8 (.t 136)⟩,
      ⟨some 138, none, .bin false .neq (.t 135) (.t 137)⟩])
    (.cond (.t 138) (.seq (.region [⟨some 4, none, .mov (.c (.bool false))⟩])
    .ret)
    .skip)))
    (.region [⟨some 126, none, .mov (.t 19)⟩,
      ⟨some 127, none, .bin false .add (.t 126) (.c (.int .i64 1))⟩,
      ⟨some 19, none, .mov (.t 127)⟩])))))))
    (.region [⟨some 115, none, .mov (.t 18)⟩,
      ⟨some 116, none, .bin false .add (.t 115) (.c (.int .i64 1))⟩,
      ⟨some 18, none, .mov (.t 116)⟩]))))))
    (.seq (.region [⟨some 140, none, .mov (.t 0)⟩,
      ⟨some 141, none, .call i_wire_Split [.t 140]⟩,
      ⟨some 139, none, .mov (.t 141)⟩,
      ⟨some 142, none, .ext 0 (.t 139)⟩,
      ⟨some 143, none, .ext 1 (.t 139)⟩,
      ⟨some 20, none, .mov (.t 142)⟩,
      ⟨some 21, none, .mov (.t 143)⟩])
    (.seq (.region [⟨some 144, none, .mov (.t 5)⟩,
      ⟨some 145, none, .mov (.t 0)⟩,
      ⟨some 146, none, .call i_cartouchelaw1_same [.t 144, .t 145]⟩,
      ⟨some 147, none, .mov (.t 146)⟩,
      ⟨some 148, some (147, true), .mov (.t 5)⟩,
      ⟨some 149, some (147, true), .mov (.t 0)⟩,
      ⟨some 150, some (147, true), .len false (.t 149)⟩,
      ⟨some 151, some (147, true), .bin false .add (.t 150) (.c (.int .i64 1))⟩,
      ⟨some 152, some (147, true), .slc 1 (.t 148) none (some (.t 151)) none⟩,
      ⟨some 153, some (147, true), .mov (.t 0)⟩,
      ⟨some 154, some (147, true), .len false (.t 153)⟩,
      ⟨some 155, some (147, true), .idxA 1 (.t 152) (.t 154)⟩,
      ⟨some 156, some (147, true), .load 1 false (.t 155)⟩,
      ⟨some 157, some (147, true), .bin false .eql (.t 156) (.c (.int .u8 201))⟩,
      ⟨some 158, none, .pickb (.t 147) (.t 157) (.c (.bool false))⟩,
      ⟨some 159, none, .mov (.t 158)⟩,
      ⟨some 160, some (159, true), .mov (.t 12)⟩,
      ⟨some 161, some (159, true), .mov (.t 20)⟩,
      ⟨some 162, some (159, true), .call i_cartoucheref1_List [.t 160, .t 161]⟩,
      ⟨some 163, none, .pickb (.t 159) (.t 162) (.c (.bool false))⟩,
      ⟨some 4, none, .mov (.t 163)⟩])
    .ret))))))))))))))), [.tmp 4]⟩
theorem T_cartouchelaw1_WireKept : trFn Try.prog [(12, [0, 0, 1, 0]), (17, [0, 0, 2, 0]), (25, [0, 0, 0, 0, 0, 0, 0, 0, 3, 0, 0, 0])] Try.f6 = some A_cartouchelaw1_WireKept := by kernel_rfl
theorem L_cartouchelaw1_WireKept : 2 ≤ Try.f6.ntmps := by decide

/-! cartouche/cartouchelaw1.WireBack -/
def A_cartouchelaw1_WireBack : AFn := ⟨(.seq (.region [⟨some 5, none, .boxI (.t 1)⟩,
      ⟨some 8, none, .mov (.c (.bool false))⟩])
    (.seq (.seq (.region [⟨some 19, none, .call i_cartouchelaw1_awake []⟩,
      ⟨some 20, none, .un .not (.t 19)⟩])
    (.cond (.t 20) (.seq (.region [⟨some 8, none, .mov (.c (.bool false))⟩])
    .ret)
    .skip))
    (.seq (.region [⟨some 21, none, .mov (.t 0)⟩,
      ⟨some 22, none, .call i_wire_PutVarint [.t 21]⟩,
      ⟨some 9, none, .mov (.t 22)⟩])
    (.seq (.region [⟨some 23, none, .blist 0 5 1⟩,
      ⟨some 24, none, .mov (.t 2)⟩,
      ⟨some 25, none, .app 0 5 1 1 (.t 23) (.t 24)⟩,
      ⟨some 26, none, .mov (.t 9)⟩,
      ⟨some 27, none, .app 0 5 1 1 (.t 25) (.t 26)⟩,
      ⟨some 28, none, .mov (.t 3)⟩,
      ⟨some 29, none, .app 0 5 1 1 (.t 27) (.t 28)⟩,
      ⟨some 10, none, .mov (.t 29)⟩])
    (.seq (.region [⟨some 31, none, .mov (.t 10)⟩,
      ⟨some 32, none, .mov (.t 2)⟩,
      ⟨some 33, none, .len false (.t 32)⟩,
      ⟨some 34, none, .call i_wire_GetVarint [.t 31, .t 33]⟩,
      ⟨some 30, none, .mov (.t 34)⟩,
      ⟨some 35, none, .ext 0 (.t 30)⟩,
      ⟨some 36, none, .ext 1 (.t 30)⟩,
      ⟨some 37, none, .ext 2 (.t 30)⟩,
      ⟨some 11, none, .mov (.t 35)⟩,
      ⟨some 12, none, .mov (.t 36)⟩,
      ⟨some 13, none, .mov (.t 37)⟩])
    (.seq (.seq (.region [⟨some 38, none, .mov (.t 13)⟩,
      ⟨some 39, none, .bin false .neq (.t 38) (.c (.int .i64 0))⟩,
      ⟨some 40, none, .mov (.t 39)⟩,
      ⟨some 41, some (40, false), .mov (.t 11)⟩,
      ⟨some 42, some (40, false), .mov (.t 0)⟩,
      ⟨some 43, some (40, false), .bin false .neq (.t 41) (.t 42)⟩,
      ⟨some 44, none, .pickb (.t 40) (.c (.bool true)) (.t 43)⟩,
      ⟨some 45, none, .mov (.t 44)⟩,
      ⟨some 46, some (45, false), .mov (.t 12)⟩,
      ⟨some 47, some (45, false), .mov (.t 2)⟩,
      ⟨some 48, some (45, false), .len false (.t 47)⟩,
      ⟨some 49, some (45, false), .mov (.t 9)⟩,
      ⟨some 50, some (45, false), .len false (.t 49)⟩,
      ⟨some 51, some (45, false), .bin false .add (.t 48) (.t 50)⟩,
      ⟨some 52, some (45, false), .bin false .neq (.t 46) (.t 51)⟩,
      ⟨some 53, none, .pickb (.t 45) (.c (.bool true)) (.t 52)⟩,
      ⟨some 54, none, .mov (.t 53)⟩,
      ⟨some 55, some (54, false), .mov (.t 9)⟩,
      ⟨some 56, some (54, false), .len false (.t 55)⟩,
      ⟨some 57, some (54, false), .mov (.t 0)⟩,
      ⟨some 58, some (54, false), .call i_wire_Size [.t 57]⟩,
      ⟨some 59, some (54, false), .bin false .neq (.t 56) (.t 58)⟩,
      ⟨some 60, none, .pickb (.t 54) (.c (.bool true)) (.t 59)⟩,
      ⟨some 61, none, .mov (.t 60)⟩,
      ⟨some 62, some (61, false), .mov (.t 0)⟩,
      ⟨some 63, some (61, false), .conv .i64 (.t 62)⟩,
      ⟨some 64, some (61, false), .call i_wire_ZigZag [.t 63]⟩,
      ⟨some 65, some (61, false), .call i_wire_ZagZig [.t 64]⟩,
      ⟨some 66, some (61, false), .mov (.t 0)⟩,
      ⟨some 67, some (61, false), .conv .i64 (.t 66)⟩,
      ⟨some 68, some (61, false), .bin false .neq (.t 65) (.t 67)⟩,
      ⟨some 69, none, .pickb (.t 61) (.c (.bool true)) (.t 68)⟩])
    (.cond (.t 69) (.seq (.region [⟨some 8, none, .mov (.c (.bool false))⟩])
    .ret)
    .skip))
    (.seq (.region [⟨some 70, none, .mov (.t 3)⟩,
      ⟨some 71, none, .call i_wire_PutChunk [.t 70]⟩,
      ⟨some 14, none, .mov (.t 71)⟩])
    (.seq (.region [⟨some 72, none, .blist 1 5 1⟩,
      ⟨some 73, none, .mov (.t 2)⟩,
      ⟨some 74, none, .app 1 5 1 1 (.t 72) (.t 73)⟩,
      ⟨some 75, none, .mov (.t 14)⟩,
      ⟨some 76, none, .app 1 5 1 1 (.t 74) (.t 75)⟩,
      ⟨some 10, none, .mov (.t 76)⟩])
    (.seq (.region [⟨some 78, none, .mov (.t 10)⟩,
      ⟨some 79, none, .mov (.t 2)⟩,
      ⟨some 80, none, .len false (.t 79)⟩,
      ⟨some 81, none, .call i_wire_GetChunk [.t 78, .t 80]⟩,
      ⟨some 77, none, .mov (.t 81)⟩,
      ⟨some 82, none, .ext 0 (.t 77)⟩,
      ⟨some 83, none, .ext 1 (.t 77)⟩,
      ⟨some 84, none, .ext 2 (.t 77)⟩,
      ⟨some 15, none, .mov (.t 82)⟩,
      ⟨some 12, none, .mov (.t 83)⟩,
      ⟨some 13, none, .mov (.t 84)⟩])
    (.seq (.seq (.region [⟨some 85, none, .mov (.t 13)⟩,
      ⟨some 86, none, .bin false .neq (.t 85) (.c (.int .i64 0))⟩,
      ⟨some 87, none, .mov (.t 86)⟩,
      ⟨some 88, some (87, false), .mov (.t 15)⟩,
      ⟨some 89, some (87, false), .mov (.t 3)⟩,
      ⟨some 90, some (87, false), .call i_cartouchelaw1_same [.t 88, .t 89]⟩,
      ⟨some 91, some (87, false), .un .not (.t 90)⟩,
      ⟨some 92, none, .pickb (.t 87) (.c (.bool true)) (.t 91)⟩,
      ⟨some 93, none, .mov (.t 92)⟩,
      ⟨some 94, some (93, false), .mov (.t 12)⟩,
      ⟨some 95, some (93, false), .mov (.t 10)⟩,
      ⟨some 96, some (93, false), .len false (.t 95)⟩,
      ⟨some 97, some (93, false), .bin false .neq (.t 94) (.t 96)⟩,
      ⟨some 98, none, .pickb (.t 93) (.c (.bool true)) (.t 97)⟩])
    (.cond (.t 98) (.seq (.region [⟨some 8, none, .mov (.c (.bool false))⟩])
    .ret)
    .skip))
    (.seq (.region [⟨some 100, none, .load 4 true (.t 5)⟩,
      ⟨some 101, none, .call i_wire_PutEntry [.t 100]⟩,
      ⟨some 99, none, .mov (.t 101)⟩,
      ⟨some 102, none, .ext 0 (.t 99)⟩,
      ⟨some 103, none, .ext 1 (.t 99)⟩,
      ⟨some 16, none, .mov (.t 102)⟩,
      ⟨some 13, none, .mov (.t 103)⟩])
    (.seq (.seq (.region [⟨some 104, none, .mov (.t 13)⟩,
      ⟨some 105, none, .bin false .neq (.t 104) (.c (.int .i64 0))⟩])
    (.cond (.t 105) (.seq (.region [⟨some 106, none, .mov (.t 16)⟩,
      ⟨some 107, none, .len false (.t 106)⟩,
      ⟨some 108, none, .bin false .eql (.t 107) (.c (.int .i64 0))⟩,
      ⟨some 8, none, .mov (.t 108)⟩])
    .ret)
    .skip))
    (.seq (.region [⟨some 109, none, .blist 2 5 1⟩,
      ⟨some 110, none, .mov (.t 2)⟩,
      ⟨some 111, none, .app 2 5 1 1 (.t 109) (.t 110)⟩,
      ⟨some 112, none, .mov (.t 16)⟩,
      ⟨some 113, none, .app 2 5 1 1 (.t 111) (.t 112)⟩,
      ⟨some 114, none, .mov (.t 3)⟩,
      ⟨some 115, none, .app 2 5 1 1 (.t 113) (.t 114)⟩,
      ⟨some 10, none, .mov (.t 115)⟩])
    (.seq (.region [⟨some 117, none, .mov (.t 10)⟩,
      ⟨some 118, none, .mov (.t 2)⟩,
      ⟨some 119, none, .len false (.t 118)⟩,
      ⟨some 120, none, .call i_wire_GetEntry [.t 117, .t 119]⟩,
      ⟨some 116, none, .mov (.t 120)⟩,
      ⟨some 121, none, .ext 0 (.t 116)⟩,
      ⟨some 122, none, .ext 1 (.t 116)⟩,
      ⟨some 123, none, .ext 2 (.t 116)⟩,
      ⟨some 17, none, .alloc 3 [.int .i64 0, .int .i64 0, .int .u64 0, .nil]⟩,
      ⟨none, none, .store 4 (.t 17) (.t 121)⟩,
      ⟨some 12, none, .mov (.t 122)⟩,
      ⟨some 18, none, .mov (.t 123)⟩])
    (.seq (.region [⟨some 124, none, .mov (.t 18)⟩,
      ⟨some 125, none, .bin false .eql (.t 124) (.c (.int .i64 0))⟩,
      ⟨some 126, none, .mov (.t 125)⟩,
      ⟨some 127, some (126, true), .load 4 true (.t 5)⟩,
      ⟨some 128, some (126, true), .load 4 true (.t 17)⟩,
      ⟨some 129, some (126, true), .call i_cartoucheref1_Same [.t 127, .t 128]⟩,
      ⟨some 130, none, .pickb (.t 126) (.t 129) (.c (.bool false))⟩,
      ⟨some 131, none, .mov (.t 130)⟩,
      ⟨some 132, some (131, true), .mov (.t 12)⟩,
      ⟨some 133, some (131, true), .mov (.t 2)⟩,
      ⟨some 134, some (131, true), .len false (.t 133)⟩,
      ⟨some 135, some (131, true), .mov (.t 16)⟩,
      ⟨some 136, some (131, true), .len false (.t 135)⟩,
      ⟨some 137, some (131, true), .bin false .add (.t 134) (.t 136)⟩,
      ⟨some 138, some (131, true), .bin false .eql (.t 132) (.t 137)⟩,
      ⟨some 139, none, .pickb (.t 131) (.t 138) (.c (.bool false))⟩,
      ⟨some 8, none, .mov (.t 139)⟩])
    .ret))))))))))))))), [.tmp 8]⟩
theorem T_cartouchelaw1_WireBack : trFn Try.prog [(9, [1, 0, 1, 0, 1, 0]), (16, [2, 0, 2, 0, 2, 0, 2, 0]), (17, [0, 0, 0, 0, 0, 0, 0, 0, 4, 0, 0, 0])] Try.f7 = some A_cartouchelaw1_WireBack := by kernel_rfl
theorem L_cartouchelaw1_WireBack : 4 ≤ Try.f7.ntmps := by decide

/-! cartouche/cartouchelaw1.WireKnown -/
def A_cartouchelaw1_WireKnown : AFn := ⟨(.seq (.region [⟨some 0, none, .mov (.c (.bool false))⟩])
    (.seq (.region [⟨some 24, none, .bslice 1 [.c (.int .u8 255), .c (.int .u8 255), .c (.int .u8 255), .c (.int .u8 255), .c (.int .u8 255), .c (.int .u8 255), .c (.int .u8 255), .c (.int .u8 255), .c (.int .u8 255), .c (.int .u8 1)]⟩,
      ⟨some 1, none, .mov (.t 24)⟩])
    (.seq (.region [⟨some 25, none, .bslice 1 [.c (.int .u8 255), .c (.int .u8 255), .c (.int .u8 255), .c (.int .u8 255), .c (.int .u8 255), .c (.int .u8 255), .c (.int .u8 255), .c (.int .u8 255), .c (.int .u8 255), .c (.int .u8 2)]⟩,
      ⟨some 2, none, .mov (.t 25)⟩])
    (.seq (.seq (.region [⟨some 26, none, .call i_cartouchelaw1_awake []⟩,
      ⟨some 27, none, .un .not (.t 26)⟩,
      ⟨some 28, none, .mov (.t 27)⟩,
      ⟨some 29, some (28, false), .call i_wire_PutVarint [.c (.int .u64 0)]⟩,
      ⟨some 30, some (28, false), .bslice 1 [.c (.int .u8 0)]⟩,
      ⟨some 31, some (28, false), .call i_cartouchelaw1_same [.t 29, .t 30]⟩,
      ⟨some 32, some (28, false), .un .not (.t 31)⟩,
      ⟨some 33, none, .pickb (.t 28) (.c (.bool true)) (.t 32)⟩,
      ⟨some 34, none, .mov (.t 33)⟩,
      ⟨some 35, some (34, false), .call i_wire_PutVarint [.c (.int .u64 18446744073709551615)]⟩,
      ⟨some 36, some (34, false), .mov (.t 1)⟩,
      ⟨some 37, some (34, false), .call i_cartouchelaw1_same [.t 35, .t 36]⟩,
      ⟨some 38, some (34, false), .un .not (.t 37)⟩,
      ⟨some 39, none, .pickb (.t 34) (.c (.bool true)) (.t 38)⟩,
      ⟨some 40, none, .mov (.t 39)⟩,
      ⟨some 41, some (40, false), .call i_wire_Size [.c (.int .u64 128)]⟩,
      ⟨some 42, some (40, false), .bin false .neq (.t 41) (.c (.int .i64 2))⟩,
      ⟨some 43, none, .pickb (.t 40) (.c (.bool true)) (.t 42)⟩,
      ⟨some 44, none, .mov (.t 43)⟩,
      ⟨some 45, some (44, false), .bslice 1 [.c (.int .u8 128), .c (.int .u8 0)]⟩,
      ⟨some 46, some (44, false), .call i_cartouchelaw1_reads [.t 45, .c (.int .i64 0), .c (.int .u64 0), .c (.int .i64 2), .c (.int .i64 0)]⟩,
      ⟨some 47, some (44, false), .un .not (.t 46)⟩,
      ⟨some 48, none, .pickb (.t 44) (.c (.bool true)) (.t 47)⟩,
      ⟨some 49, none, .mov (.t 48)⟩,
      ⟨some 50, some (49, false), .mov (.t 2)⟩,
      ⟨some 51, some (49, false), .call i_cartouchelaw1_reads [.t 50, .c (.int .i64 0), .c (.int .u64 0), .c (.int .i64 0), .c (.int .i64 4)]⟩,
      ⟨some 52, some (49, false), .un .not (.t 51)⟩,
      ⟨some 53, none, .pickb (.t 49) (.c (.bool true)) (.t 52)⟩,
      ⟨some 54, none, .mov (.t 53)⟩,
      ⟨some 55, some (54, false), .bslice 1 [.c (.int .u8 128)]⟩,
      ⟨some 56, some (54, false), .call i_cartouchelaw1_reads [.t 55, .c (.int .i64 0), .c (.int .u64 0), .c (.int .i64 0), .c (.int .i64 3)]⟩,
      ⟨some 57, some (54, false), .un .not (.t 56)⟩,
      ⟨some 58, none, .pickb (.t 54) (.c (.bool true)) (.t 57)⟩,
      ⟨some 59, none, .mov (.t 58)⟩,
      ⟨some 60, some (59, false), .bslice 1 [.c (.int .u8 1)]⟩,
      ⟨some 61, some (59, false), .call i_cartouchelaw1_reads [.t 60, .c (.int .i64 1), .c (.int .u64 0), .c (.int .i64 0), .c (.int .i64 3)]⟩,
      ⟨some 62, some (59, false), .un .not (.t 61)⟩,
      ⟨some 63, none, .pickb (.t 59) (.c (.bool true)) (.t 62)⟩,
      ⟨some 64, none, .mov (.t 63)⟩,
      ⟨some 65, some (64, false), .bslice 1 [.c (.int .u8 1)]⟩,
      ⟨some 66, some (64, false), .call i_cartouchelaw1_reads [.t 65, .c (.int .i64 2), .c (.int .u64 0), .c (.int .i64 0), .c (.int .i64 18)]⟩,
      ⟨some 67, some (64, false), .un .not (.t 66)⟩,
      ⟨some 68, none, .pickb (.t 64) (.c (.bool true)) (.t 67)⟩])
    (.cond (.t 68) (.seq (.region [⟨some 0, none, .mov (.c (.bool false))⟩])
    .ret)
    .skip))
    (.seq (.seq (.region [⟨some 69, none, .call i_wire_ZigZag [.c (.int .i64 (-1))]⟩,
      ⟨some 70, none, .bin false .neq (.t 69) (.c (.int .u64 1))⟩,
      ⟨some 71, none, .mov (.t 70)⟩,
      ⟨some 72, some (71, false), .call i_wire_ZigZag [.c (.int .i64 1)]⟩,
      ⟨some 73, some (71, false), .bin false .neq (.t 72) (.c (.int .u64 2))⟩,
      ⟨some 74, none, .pickb (.t 71) (.c (.bool true)) (.t 73)⟩,
      ⟨some 75, none, .mov (.t 74)⟩,
      ⟨some 76, some (75, false), .call i_wire_ZigZag [.c (.int .i64 (-9223372036854775808))]⟩,
      ⟨some 77, some (75, false), .bin false .neq (.t 76) (.c (.int .u64 18446744073709551615))⟩,
      ⟨some 78, none, .pickb (.t 75) (.c (.bool true)) (.t 77)⟩,
      ⟨some 79, none, .mov (.t 78)⟩,
      ⟨some 80, some (79, false), .call i_wire_ZagZig [.c (.int .u64 3)]⟩,
      ⟨some 81, some (79, false), .bin false .neq (.t 80) (.c (.int .i64 (-2)))⟩,
      ⟨some 82, none, .pickb (.t 79) (.c (.bool true)) (.t 81)⟩,
      ⟨some 83, none, .mov (.t 82)⟩,
      ⟨some 84, some (83, false), .call i_wire_PutFix32 [.c (.int .u32 258)]⟩,
      ⟨some 85, some (83, false), .bslice 1 [.c (.int .u8 2), .c (.int .u8 1), .c (.int .u8 0), .c (.int .u8 0)]⟩,
      ⟨some 86, some (83, false), .call i_cartouchelaw1_same [.t 84, .t 85]⟩,
      ⟨some 87, some (83, false), .un .not (.t 86)⟩,
      ⟨some 88, none, .pickb (.t 83) (.c (.bool true)) (.t 87)⟩])
    (.cond (.t 88) (.seq (.region [⟨some 0, none, .mov (.c (.bool false))⟩])
    .ret)
    .skip))
    (.seq (.region [⟨some 90, none, .bslice 1 [.c (.int .u8 1), .c (.int .u8 0), .c (.int .u8 0)]⟩,
      ⟨some 91, none, .call i_wire_GetFix32 [.t 90, .c (.int .i64 0)]⟩,
      ⟨some 89, none, .mov (.t 91)⟩,
      ⟨some 92, none, .ext 0 (.t 89)⟩,
      ⟨some 93, none, .ext 1 (.t 89)⟩,
      ⟨some 94, none, .ext 2 (.t 89)⟩,
      ⟨some 3, none, .mov (.t 92)⟩,
      ⟨some 4, none, .mov (.t 93)⟩,
      ⟨some 5, none, .mov (.t 94)⟩])
    (.seq (.region [⟨some 96, none, .bslice 1 [.c (.int .u8 2), .c (.int .u8 7)]⟩,
      ⟨some 97, none, .call i_wire_GetChunk [.t 96, .c (.int .i64 0)]⟩,
      ⟨some 95, none, .mov (.t 97)⟩,
      ⟨some 98, none, .ext 0 (.t 95)⟩,
      ⟨some 99, none, .ext 1 (.t 95)⟩,
      ⟨some 100, none, .ext 2 (.t 95)⟩,
      ⟨some 6, none, .mov (.t 98)⟩,
      ⟨some 7, none, .mov (.t 99)⟩,
      ⟨some 8, none, .mov (.t 100)⟩])
    (.seq (.seq (.region [⟨some 101, none, .mov (.t 5)⟩,
      ⟨some 102, none, .bin false .neq (.t 101) (.c (.int .i64 3))⟩,
      ⟨some 103, none, .mov (.t 102)⟩,
      ⟨some 104, some (103, false), .mov (.t 8)⟩,
      ⟨some 105, some (103, false), .bin false .neq (.t 104) (.c (.int .i64 3))⟩,
      ⟨some 106, none, .pickb (.t 103) (.c (.bool true)) (.t 105)⟩,
      ⟨some 107, none, .mov (.t 106)⟩,
      ⟨some 108, some (107, false), .bslice 1 [.c (.int .u8 7)]⟩,
      ⟨some 109, some (107, false), .call i_wire_PutChunk [.t 108]⟩,
      ⟨some 110, some (107, false), .bslice 1 [.c (.int .u8 1), .c (.int .u8 7)]⟩,
      ⟨some 111, some (107, false), .call i_cartouchelaw1_same [.t 109, .t 110]⟩,
      ⟨some 112, some (107, false), .un .not (.t 111)⟩,
      ⟨some 113, none, .pickb (.t 107) (.c (.bool true)) (.t 112)⟩])
    (.cond (.t 113) (.seq (.region [⟨some 0, none, .mov (.c (.bool false))⟩])
    .ret)
    .skip))
    (.seq (.region [⟨some 115, none, .call i_wire_PutTag [.c (.int .i64 1), .c (.int .i64 2)]⟩,
      ⟨some 114, none, .mov (.t 115)⟩,
      ⟨some 116, none, .ext 0 (.t 114)⟩,
      ⟨some 117, none, .ext 1 (.t 114)⟩,
      ⟨some 9, none, .mov (.t 116)⟩,
      ⟨some 5, none, .mov (.t 117)⟩])
    (.seq (.region [⟨some 119, none, .call i_wire_PutTag [.c (.int .i64 0), .c (.int .i64 0)]⟩,
      ⟨some 118, none, .mov (.t 119)⟩,
      ⟨some 120, none, .ext 0 (.t 118)⟩,
      ⟨some 121, none, .ext 1 (.t 118)⟩,
      ⟨some 8, none, .mov (.t 121)⟩])
    (.seq (.region [⟨some 123, none, .call i_wire_PutTag [.c (.int .i64 1), .c (.int .i64 3)]⟩,
      ⟨some 122, none, .mov (.t 123)⟩,
      ⟨some 124, none, .ext 0 (.t 122)⟩,
      ⟨some 125, none, .ext 1 (.t 122)⟩,
      ⟨some 10, none, .mov (.t 124)⟩,
      ⟨some 11, none, .mov (.t 125)⟩])
    (.seq (.region [⟨some 127, none, .bslice 1 [.c (.int .u8 11)]⟩,
      ⟨some 128, none, .call i_wire_GetTag [.t 127, .c (.int .i64 0)]⟩,
      ⟨some 126, none, .mov (.t 128)⟩,
      ⟨some 129, none, .ext 0 (.t 126)⟩,
      ⟨some 130, none, .ext 1 (.t 126)⟩,
      ⟨some 131, none, .ext 2 (.t 126)⟩,
      ⟨some 132, none, .ext 3 (.t 126)⟩,
      ⟨some 12, none, .mov (.t 129)⟩,
      ⟨some 13, none, .mov (.t 130)⟩,
      ⟨some 14, none, .mov (.t 131)⟩,
      ⟨some 15, none, .mov (.t 132)⟩])
    (.seq (.region [⟨some 134, none, .bslice 1 [.c (.int .u8 0)]⟩,
      ⟨some 135, none, .call i_wire_GetTag [.t 134, .c (.int .i64 0)]⟩,
      ⟨some 133, none, .mov (.t 135)⟩,
      ⟨some 136, none, .ext 0 (.t 133)⟩,
      ⟨some 137, none, .ext 1 (.t 133)⟩,
      ⟨some 138, none, .ext 2 (.t 133)⟩,
      ⟨some 139, none, .ext 3 (.t 133)⟩,
      ⟨some 16, none, .mov (.t 136)⟩,
      ⟨some 17, none, .mov (.t 137)⟩,
      ⟨some 18, none, .mov (.t 138)⟩,
      ⟨some 19, none, .mov (.t 139)⟩])
    (.seq (.seq (.region [⟨some 140, none, .mov (.t 5)⟩,
      ⟨some 141, none, .bin false .neq (.t 140) (.c (.int .i64 0))⟩,
      ⟨some 142, none, .mov (.t 141)⟩,
      ⟨some 143, some (142, false), .mov (.t 9)⟩,
      ⟨some 144, some (142, false), .bslice 1 [.c (.int .u8 10)]⟩,
      ⟨some 145, some (142, false), .call i_cartouchelaw1_same [.t 143, .t 144]⟩,
      ⟨some 146, some (142, false), .un .not (.t 145)⟩,
      ⟨some 147, none, .pickb (.t 142) (.c (.bool true)) (.t 146)⟩,
      ⟨some 148, none, .mov (.t 147)⟩,
      ⟨some 149, some (148, false), .mov (.t 8)⟩,
      ⟨some 150, some (148, false), .bin false .neq (.t 149) (.c (.int .i64 5))⟩,
      ⟨some 151, none, .pickb (.t 148) (.c (.bool true)) (.t 150)⟩,
      ⟨some 152, none, .mov (.t 151)⟩,
      ⟨some 153, some (152, false), .mov (.t 11)⟩,
      ⟨some 154, some (152, false), .bin false .neq (.t 153) (.c (.int .i64 6))⟩,
      ⟨some 155, none, .pickb (.t 152) (.c (.bool true)) (.t 154)⟩,
      ⟨some 156, none, .mov (.t 155)⟩,
      ⟨some 157, some (156, false), .mov (.t 15)⟩,
      ⟨some 158, some (156, false), .bin false .neq (.t 157) (.c (.int .i64 6))⟩,
      ⟨some 159, none, .pickb (.t 156) (.c (.bool true)) (.t 158)⟩,
      ⟨some 160, none, .mov (.t 159)⟩,
      ⟨some 161, some (160, false), .mov (.t 19)⟩,
      ⟨some 162, some (160, false), .bin false .neq (.t 161) (.c (.int .i64 5))⟩,
      ⟨some 163, none, .pickb (.t 160) (.c (.bool true)) (.t 162)⟩])
    (.cond (.t 163) (.seq (.region [⟨some 0, none, .mov (.c (.bool false))⟩])
    .ret)
    .skip))
    (.seq (.region [⟨some 165, none, .build [.int .i64 0, .int .i64 0, .int .u64 0, .nil] [(0, 1, .c (.int .i64 1)), (2, 1, .c (.int .u64 5))]⟩,
      ⟨some 166, none, .call i_wire_PutEntry [.t 165]⟩,
      ⟨some 164, none, .mov (.t 166)⟩,
      ⟨some 167, none, .ext 0 (.t 164)⟩,
      ⟨some 168, none, .ext 1 (.t 164)⟩,
      ⟨some 20, none, .mov (.t 167)⟩,
      ⟨some 5, none, .mov (.t 168)⟩])
    (.seq (.region [⟨some 170, none, .bslice 1 [.c (.int .u8 18), .c (.int .u8 1), .c (.int .u8 9), .c (.int .u8 8)]⟩,
      ⟨some 171, none, .call i_wire_GetEntry [.t 170, .c (.int .i64 0)]⟩,
      ⟨some 169, none, .mov (.t 171)⟩,
      ⟨some 172, none, .ext 0 (.t 169)⟩,
      ⟨some 173, none, .ext 1 (.t 169)⟩,
      ⟨some 174, none, .ext 2 (.t 169)⟩,
      ⟨some 21, none, .alloc 0 [.int .i64 0, .int .i64 0, .int .u64 0, .nil]⟩,
      ⟨none, none, .store 4 (.t 21) (.t 172)⟩,
      ⟨some 22, none, .mov (.t 173)⟩,
      ⟨some 8, none, .mov (.t 174)⟩])
    (.seq (.region [⟨some 176, none, .bslice 1 [.c (.int .u8 8), .c (.int .u8 1), .c (.int .u8 18), .c (.int .u8 0)]⟩,
      ⟨some 177, none, .call i_wire_Split [.t 176]⟩,
      ⟨some 175, none, .mov (.t 177)⟩,
      ⟨some 178, none, .ext 0 (.t 175)⟩,
      ⟨some 179, none, .ext 1 (.t 175)⟩,
      ⟨some 23, none, .mov (.t 178)⟩,
      ⟨some 11, none, .mov (.t 179)⟩])
    (.seq (.region [⟨some 181, none, .bslice 1 [.c (.int .u8 8)]⟩,
      ⟨some 182, none, .call i_wire_Split [.t 181]⟩,
      ⟨some 180, none, .mov (.t 182)⟩,
      ⟨some 183, none, .ext 0 (.t 180)⟩,
      ⟨some 184, none, .ext 1 (.t 180)⟩,
      ⟨some 15, none, .mov (.t 184)⟩])
    (.seq (.region [⟨some 185, none, .mov (.t 5)⟩,
      ⟨some 186, none, .bin false .eql (.t 185) (.c (.int .i64 0))⟩,
      ⟨some 187, none, .mov (.t 186)⟩,
      ⟨some 188, some (187, true), .mov (.t 20)⟩,
      ⟨some 189, some (187, true), .bslice 1 [.c (.int .u8 8), .c (.int .u8 5)]⟩,
      ⟨some 190, some (187, true), .call i_cartouchelaw1_same [.t 188, .t 189]⟩,
      ⟨some 191, none, .pickb (.t 187) (.t 190) (.c (.bool false))⟩,
      ⟨some 192, none, .mov (.t 191)⟩,
      ⟨some 193, some (192, true), .mov (.t 8)⟩,
      ⟨some 194, some (192, true), .bin false .eql (.t 193) (.c (.int .i64 0))⟩,
      ⟨some 195, none, .pickb (.t 192) (.t 194) (.c (.bool false))⟩,
      ⟨some 196, none, .mov (.t 195)⟩,
      ⟨some 197, some (196, true), .mov (.t 22)⟩,
      ⟨some 198, some (196, true), .bin false .eql (.t 197) (.c (.int .i64 3))⟩,
      ⟨some 199, none, .pickb (.t 196) (.t 198) (.c (.bool false))⟩,
      ⟨some 200, none, .mov (.t 199)⟩,
      ⟨some 201, some (200, true), .load 4 true (.t 21)⟩,
      ⟨some 202, some (200, true), .bslice 1 [.c (.int .u8 9)]⟩,
      ⟨some 203, some (200, true), .build [.int .i64 0, .int .i64 0, .int .u64 0, .nil] [(0, 1, .c (.int .i64 2)), (1, 1, .c (.int .i64 2)), (3, 1, .t 202)]⟩,
      ⟨some 204, some (200, true), .call i_cartoucheref1_Same [.t 201, .t 203]⟩,
      ⟨some 205, none, .pickb (.t 200) (.t 204) (.c (.bool false))⟩,
      ⟨some 206, none, .mov (.t 205)⟩,
      ⟨some 207, some (206, true), .mov (.t 11)⟩,
      ⟨some 208, some (206, true), .bin false .eql (.t 207) (.c (.int .i64 0))⟩,
      ⟨some 209, none, .pickb (.t 206) (.t 208) (.c (.bool false))⟩,
      ⟨some 210, none, .mov (.t 209)⟩,
      ⟨some 211, some (210, true), .mov (.t 23)⟩,
      ⟨some 212, some (210, true), .build [.int .i64 0, .int .i64 0, .int .u64 0, .nil] [(0, 1, .c (.int .i64 1)), (2, 1, .c (.int .u64 1))]⟩,
      ⟨some 213, some (210, true), .build [.int .i64 0, .int .i64 0, .int .u64 0, .nil] [(0, 1, .c (.int .i64 2)), (1, 1, .c (.int .i64 2))]⟩,
      ⟨some 214, some (210, true), .bslice 4 [.t 212, .t 213]⟩,
      ⟨some 215, some (210, true), .call i_cartoucheref1_List [.t 211, .t 214]⟩,
      ⟨some 216, none, .pickb (.t 210) (.t 215) (.c (.bool false))⟩,
      ⟨some 217, none, .mov (.t 216)⟩,
      ⟨some 218, some (217, true), .mov (.t 15)⟩,
      ⟨some 219, some (217, true), .bin false .eql (.t 218) (.c (.int .i64 3))⟩,
      ⟨some 220, none, .pickb (.t 217) (.t 219) (.c (.bool false))⟩,
      ⟨some 0, none, .mov (.t 220)⟩])
    .ret))))))))))))))))))), [.tmp 0]⟩
theorem T_cartouchelaw1_WireKnown : trFn Try.prog [(19, [0, 0, 0, 0, 0, 0, 1, 0, 0, 0])] Try.f8 = some A_cartouchelaw1_WireKnown := by kernel_rfl
theorem L_cartouchelaw1_WireKnown : 0 ≤ Try.f8.ntmps := by decide

/-! cartouche/cartouchelaw1.WireEntries -/
def A_cartouchelaw1_WireEntries : AFn := ⟨(.seq (.region [⟨some 4, none, .boxI (.t 0)⟩,
      ⟨some 8, none, .mov (.c (.bool false))⟩])
    (.seq (.region [⟨some 30, none, .load 4 true (.t 4)⟩,
      ⟨some 31, none, .call i_wire_PutEntry [.t 30]⟩,
      ⟨some 29, none, .mov (.t 31)⟩,
      ⟨some 32, none, .ext 0 (.t 29)⟩,
      ⟨some 33, none, .ext 1 (.t 29)⟩,
      ⟨some 9, none, .mov (.t 32)⟩,
      ⟨some 10, none, .mov (.t 33)⟩])
    (.seq (.region [⟨some 35, none, .mov (.t 2)⟩,
      ⟨some 36, none, .mov (.t 3)⟩,
      ⟨some 37, none, .call i_wire_GetEntry [.t 35, .t 36]⟩,
      ⟨some 34, none, .mov (.t 37)⟩,
      ⟨some 38, none, .ext 0 (.t 34)⟩,
      ⟨some 39, none, .ext 1 (.t 34)⟩,
      ⟨some 40, none, .ext 2 (.t 34)⟩,
      ⟨some 11, none, .alloc 0 [.int .i64 0, .int .i64 0, .int .u64 0, .nil]⟩,
      ⟨none, none, .store 4 (.t 11) (.t 38)⟩,
      ⟨some 12, none, .mov (.t 39)⟩,
      ⟨some 13, none, .mov (.t 40)⟩])
    (.seq (.region [⟨some 42, none, .mov (.t 2)⟩,
      ⟨some 43, none, .call i_wire_Split [.t 42]⟩,
      ⟨some 41, none, .mov (.t 43)⟩,
      ⟨some 44, none, .ext 0 (.t 41)⟩,
      ⟨some 45, none, .ext 1 (.t 41)⟩,
      ⟨some 14, none, .mov (.t 44)⟩,
      ⟨some 15, none, .mov (.t 45)⟩])
    (.seq (.region [⟨some 47, none, .mov (.t 1)⟩,
      ⟨some 48, none, .call i_wire_Join [.t 47]⟩,
      ⟨some 46, none, .mov (.t 48)⟩,
      ⟨some 49, none, .ext 0 (.t 46)⟩,
      ⟨some 50, none, .ext 1 (.t 46)⟩,
      ⟨some 16, none, .mov (.t 49)⟩,
      ⟨some 17, none, .mov (.t 50)⟩])
    (.seq (.region [⟨some 52, none, .load 4 true (.t 4)⟩,
      ⟨some 53, none, .call i_cartoucheref1_PutEntry [.t 52]⟩,
      ⟨some 51, none, .mov (.t 53)⟩,
      ⟨some 54, none, .ext 0 (.t 51)⟩,
      ⟨some 55, none, .ext 1 (.t 51)⟩,
      ⟨some 18, none, .mov (.t 54)⟩,
      ⟨some 19, none, .mov (.t 55)⟩])
    (.seq (.region [⟨some 57, none, .mov (.t 2)⟩,
      ⟨some 58, none, .call i_cartoucheref1_Split [.t 57]⟩,
      ⟨some 56, none, .mov (.t 58)⟩,
      ⟨some 59, none, .ext 0 (.t 56)⟩,
      ⟨some 60, none, .ext 1 (.t 56)⟩,
      ⟨some 20, none, .mov (.t 59)⟩,
      ⟨some 21, none, .mov (.t 60)⟩])
    (.seq (.seq (.region [⟨some 61, none, .call i_cartouchelaw1_awake []⟩,
      ⟨some 62, none, .un .not (.t 61)⟩,
      ⟨some 63, none, .mov (.t 62)⟩,
      ⟨some 64, some (63, false), .mov (.t 10)⟩,
      ⟨some 65, some (63, false), .mov (.t 19)⟩,
      ⟨some 66, some (63, false), .bin false .neq (.t 64) (.t 65)⟩,
      ⟨some 67, none, .pickb (.t 63) (.c (.bool true)) (.t 66)⟩,
      ⟨some 68, none, .mov (.t 67)⟩,
      ⟨some 69, some (68, false), .mov (.t 9)⟩,
      ⟨some 70, some (68, false), .mov (.t 18)⟩,
      ⟨some 71, some (68, false), .call i_cartouchelaw1_same [.t 69, .t 70]⟩,
      ⟨some 72, some (68, false), .un .not (.t 71)⟩,
      ⟨some 73, none, .pickb (.t 68) (.c (.bool true)) (.t 72)⟩,
      ⟨some 74, none, .mov (.t 73)⟩,
      ⟨some 75, some (74, false), .mov (.t 15)⟩,
      ⟨some 76, some (74, false), .mov (.t 21)⟩,
      ⟨some 77, some (74, false), .bin false .neq (.t 75) (.t 76)⟩,
      ⟨some 78, none, .pickb (.t 74) (.c (.bool true)) (.t 77)⟩,
      ⟨some 79, none, .mov (.t 78)⟩,
      ⟨some 80, some (79, false), .mov (.t 14)⟩,
      ⟨some 81, some (79, false), .mov (.t 20)⟩,
      ⟨some 82, some (79, false), .call i_cartoucheref1_List [.t 80, .t 81]⟩,
      ⟨some 83, some (79, false), .un .not (.t 82)⟩,
      ⟨some 84, none, .pickb (.t 79) (.c (.bool true)) (.t 83)⟩])
    (.cond (.t 84) (.seq (.region [⟨some 8, none, .mov (.c (.bool false))⟩])
    .ret)
    .skip))
    (.seq (.region [⟨some 22, none, .mov (.c (.nil))⟩])
    (.seq (.seq (.region [⟨some 23, none, .mov (.c (.int .i64 0))⟩])
    (.block 0 (.loop (.seq (.seq (.region [⟨some 85, none, .mov (.t 23)⟩,
      ⟨some 86, none, .mov (.t 1)⟩,
      ⟨some 87, none, .len false (.t 86)⟩,
      ⟨some 88, none, .bin false .lss (.t 85) (.t 87)⟩])
    (.cond (.t 88) .skip
    (.exit 0)))
    (.seq (.block 1 (.seq (.region [⟨some 92, none, .mov (.t 1)⟩,
      ⟨some 93, none, .mov (.t 23)⟩,
      ⟨some 94, none, .idxA 4 (.t 92) (.t 93)⟩,
      ⟨some 95, none, .load 4 true (.t 94)⟩,
      ⟨some 96, none, .call i_cartoucheref1_PutEntry [.t 95]⟩,
      ⟨some 91, none, .mov (.t 96)⟩,
      ⟨some 97, none, .ext 0 (.t 91)⟩,
      ⟨some 98, none, .ext 1 (.t 91)⟩,
      ⟨some 24, none, .mov (.t 97)⟩,
      ⟨some 25, none, .mov (.t 98)⟩])
    (.seq (.seq (.region [⟨some 99, none, .mov (.t 25)⟩,
      ⟨some 100, none, .bin false .neq (.t 99) (.c (.int .i64 0))⟩])
    (.cond (.t 100) (.seq (.seq (.region [⟨some 101, none, .mov (.t 17)⟩,
      ⟨some 102, none, .mov (.t 25)⟩,
      ⟨some 103, none, .bin false .neq (.t 101) (.t 102)⟩,
      ⟨some 104, none, .mov (.t 103)⟩,
      ⟨some 105, some (104, false), .mov (.t 16)⟩,
      ⟨some 106, some (104, false), .len false (.t 105)⟩,
      ⟨some 107, some (104, false), .bin false .neq (.t 106) (.c (.int .i64 0))⟩,
      ⟨some 108, none, .pickb (.t 104) (.c (.bool true)) (.t 107)⟩])
    (.cond (.t 108) (.seq (.region [⟨some 8, none, .mov (.c (.bool false))⟩])
    .ret)
    .skip))
    (.seq (.region [⟨some 22, none, .mov (.c (.nil))⟩])
    (.exit 0)))
    .skip))
    (.seq (.region [⟨some 109, none, .mov (.t 22)⟩,
      ⟨some 110, none, .mov (.t 24)⟩,
      ⟨some 111, none, .app 1 5 1 1 (.t 109) (.t 110)⟩,
      ⟨some 22, none, .mov (.t 111)⟩])
    (.seq (.region [⟨some 112, none, .mov (.t 23)⟩,
      ⟨some 113, none, .mov (.t 1)⟩,
      ⟨some 114, none, .len false (.t 113)⟩,
      ⟨some 115, none, .bin false .sub (.t 114) (.c (.int .i64 1))⟩,
      ⟨some 116, none, .bin false .eql (.t 112) (.t 115)⟩,
      ⟨some 117, none, .mov (.t 116)⟩,
      ⟨some 118, some (117, true), .mov (.t 17)⟩,
      ⟨some 119, some (117, true), .bin false .neq (.t 118) (.c (.int .i64 0))⟩,
      ⟨some 120, some (117, true), .mov (.t 119)⟩,
      ⟨some 121, some (120, false), .mov (.t 16)⟩,
      ⟨some 122, some (120, false), .mov (.t 22)⟩,
      ⟨some 123, some (120, false), .call i_cartouchelaw1_same [.t 121, .t 122]⟩,
      ⟨some 124, some (120, false), .un .not (.t 123)⟩,
      ⟨some 125, some (117, true), .pickb (.t 120) (.c (.bool true)) (.t 124)⟩,
      ⟨some 126, none, .pickb (.t 117) (.t 125) (.c (.bool false))⟩])
    (.cond (.t 126) (.seq (.region [⟨some 8, none, .mov (.c (.bool false))⟩])
    .ret)
    .skip))))))
    (.region [⟨some 89, none, .mov (.t 23)⟩,
      ⟨some 90, none, .bin false .add (.t 89) (.c (.int .i64 1))⟩,
      ⟨some 23, none, .mov (.t 90)⟩]))))))
    (.seq (.seq (.region [⟨some 127, none, .mov (.t 1)⟩,
      ⟨some 128, none, .len false (.t 127)⟩,
      ⟨some 129, none, .bin false .eql (.t 128) (.c (.int .i64 0))⟩,
      ⟨some 130, none, .mov (.t 129)⟩,
      ⟨some 131, some (130, true), .mov (.t 17)⟩,
      ⟨some 132, some (130, true), .bin false .neq (.t 131) (.c (.int .i64 0))⟩,
      ⟨some 133, some (130, true), .mov (.t 132)⟩,
      ⟨some 134, some (133, false), .mov (.t 16)⟩,
      ⟨some 135, some (133, false), .len false (.t 134)⟩,
      ⟨some 136, some (133, false), .bin false .neq (.t 135) (.c (.int .i64 0))⟩,
      ⟨some 137, some (130, true), .pickb (.t 133) (.c (.bool true)) (.t 136)⟩,
      ⟨some 138, none, .pickb (.t 130) (.t 137) (.c (.bool false))⟩])
    (.cond (.t 138) (.seq (.region [⟨some 8, none, .mov (.c (.bool false))⟩])
    .ret)
    .skip))
    (.seq (.seq (.region [⟨some 139, none, .mov (.t 3)⟩,
      ⟨some 140, none, .bin false .lss (.t 139) (.c (.int .i64 0))⟩,
      ⟨some 141, none, .mov (.t 140)⟩,
      ⟨some 142, some (141, false), .mov (.t 3)⟩,
      ⟨some 143, some (141, false), .mov (.t 2)⟩,
      ⟨some 144, some (141, false), .len false (.t 143)⟩,
      ⟨some 145, some (141, false), .bin false .gtr (.t 142) (.t 144)⟩,
      ⟨some 146, none, .pickb (.t 141) (.c (.bool true)) (.t 145)⟩])
    (.cond (.t 146) (.seq (.region [⟨some 147, none, .mov (.t 13)⟩,
      ⟨some 148, none, .bin false .eql (.t 147) (.c (.int .i64 18))⟩,
      ⟨some 149, none, .mov (.t 148)⟩,
      ⟨some 150, some (149, true), .mov (.t 12)⟩,
      ⟨some 151, some (149, true), .bin false .eql (.t 150) (.c (.int .i64 0))⟩,
      ⟨some 152, none, .pickb (.t 149) (.t 151) (.c (.bool false))⟩,
      ⟨some 153, none, .mov (.t 152)⟩,
      ⟨some 154, some (153, true), .load 4 true (.t 11)⟩,
      ⟨some 155, some (153, true), .build [.int .i64 0, .int .i64 0, .int .u64 0, .nil] []⟩,
      ⟨some 156, some (153, true), .call i_cartoucheref1_Same [.t 154, .t 155]⟩,
      ⟨some 157, none, .pickb (.t 153) (.t 156) (.c (.bool false))⟩,
      ⟨some 8, none, .mov (.t 157)⟩])
    .ret)
    .skip))
    (.seq (.region [⟨some 159, none, .mov (.t 2)⟩,
      ⟨some 160, none, .mov (.t 3)⟩,
      ⟨some 161, none, .call i_cartoucheref1_GetEntry [.t 159, .t 160]⟩,
      ⟨some 158, none, .mov (.t 161)⟩,
      ⟨some 162, none, .ext 0 (.t 158)⟩,
      ⟨some 163, none, .ext 1 (.t 158)⟩,
      ⟨some 164, none, .ext 2 (.t 158)⟩,
      ⟨some 26, none, .alloc 2 [.int .i64 0, .int .i64 0, .int .u64 0, .nil]⟩,
      ⟨none, none, .store 4 (.t 26) (.t 162)⟩,
      ⟨some 27, none, .mov (.t 163)⟩,
      ⟨some 28, none, .mov (.t 164)⟩])
    (.seq (.region [⟨some 165, none, .load 4 true (.t 11)⟩,
      ⟨some 166, none, .load 4 true (.t 26)⟩,
      ⟨some 167, none, .call i_cartoucheref1_Same [.t 165, .t 166]⟩,
      ⟨some 168, none, .mov (.t 167)⟩,
      ⟨some 169, some (168, true), .mov (.t 12)⟩,
      ⟨some 170, some (168, true), .mov (.t 27)⟩,
      ⟨some 171, some (168, true), .bin false .eql (.t 169) (.t 170)⟩,
      ⟨some 172, none, .pickb (.t 168) (.t 171) (.c (.bool false))⟩,
      ⟨some 173, none, .mov (.t 172)⟩,
      ⟨some 174, some (173, true), .mov (.t 13)⟩,
      ⟨some 175, some (173, true), .mov (.t 28)⟩,
      ⟨some 176, some (173, true), .bin false .eql (.t 174) (.t 175)⟩,
      ⟨some 177, none, .pickb (.t 173) (.t 176) (.c (.bool false))⟩,
      ⟨some 8, none, .mov (.t 177)⟩])
    .ret)))))))))))))), [.tmp 8]⟩
theorem T_cartouchelaw1_WireEntries : trFn Try.prog [(2, [0, 0, 0, 0, 0, 0, 0, 1, 0, 0, 0]), (18, [0, 0, 1, 0]), (25, [0, 0, 0, 0, 0, 0, 0, 3, 0, 0, 0])] Try.f9 = some A_cartouchelaw1_WireEntries := by kernel_rfl
theorem L_cartouchelaw1_WireEntries : 4 ≤ Try.f9.ntmps := by decide

/-! cartouche/cartouchelaw1.WireJoins -/
def A_cartouchelaw1_WireJoins : AFn := ⟨(.seq (.region [⟨some 6, none, .mov (.c (.bool false))⟩])
    (.seq (.seq (.region [⟨some 20, none, .call i_cartouchelaw1_awake []⟩,
      ⟨some 21, none, .un .not (.t 20)⟩])
    (.cond (.t 21) (.seq (.region [⟨some 6, none, .mov (.c (.bool false))⟩])
    .ret)
    .skip))
    (.seq (.region [⟨some 23, none, .mov (.t 0)⟩,
      ⟨some 24, none, .call i_wire_Join [.t 23]⟩,
      ⟨some 22, none, .mov (.t 24)⟩,
      ⟨some 25, none, .ext 0 (.t 22)⟩,
      ⟨some 26, none, .ext 1 (.t 22)⟩,
      ⟨some 7, none, .mov (.t 25)⟩,
      ⟨some 8, none, .mov (.t 26)⟩])
    (.seq (.seq (.region [⟨some 27, none, .mov (.t 8)⟩,
      ⟨some 28, none, .bin false .eql (.t 27) (.c (.int .i64 0))⟩])
    (.cond (.t 28) (.seq (.region [⟨some 30, none, .mov (.t 7)⟩,
      ⟨some 31, none, .call i_wire_Split [.t 30]⟩,
      ⟨some 29, none, .mov (.t 31)⟩,
      ⟨some 32, none, .ext 0 (.t 29)⟩,
      ⟨some 33, none, .ext 1 (.t 29)⟩,
      ⟨some 9, none, .mov (.t 32)⟩,
      ⟨some 10, none, .mov (.t 33)⟩])
    (.seq (.region [⟨some 34, none, .mov (.t 10)⟩,
      ⟨some 35, none, .bin false .neq (.t 34) (.c (.int .i64 0))⟩,
      ⟨some 36, none, .mov (.t 35)⟩,
      ⟨some 37, some (36, false), .mov (.t 9)⟩,
      ⟨some 38, some (36, false), .mov (.t 0)⟩,
      ⟨some 39, some (36, false), .call i_cartoucheref1_List [.t 37, .t 38]⟩,
      ⟨some 40, some (36, false), .un .not (.t 39)⟩,
      ⟨some 41, none, .pickb (.t 36) (.c (.bool true)) (.t 40)⟩])
    (.cond (.t 41) (.seq (.region [⟨some 6, none, .mov (.c (.bool false))⟩])
    .ret)
    .skip)))
    .skip))
    (.seq (.region [⟨some 43, none, .mov (.t 1)⟩,
      ⟨some 44, none, .call i_wire_Split [.t 43]⟩,
      ⟨some 42, none, .mov (.t 44)⟩,
      ⟨some 45, none, .ext 0 (.t 42)⟩,
      ⟨some 46, none, .ext 1 (.t 42)⟩,
      ⟨some 11, none, .mov (.t 45)⟩,
      ⟨some 8, none, .mov (.t 46)⟩])
    (.seq (.region [⟨some 48, none, .mov (.t 2)⟩,
      ⟨some 49, none, .call i_wire_Split [.t 48]⟩,
      ⟨some 47, none, .mov (.t 49)⟩,
      ⟨some 50, none, .ext 0 (.t 47)⟩,
      ⟨some 51, none, .ext 1 (.t 47)⟩,
      ⟨some 12, none, .mov (.t 50)⟩,
      ⟨some 13, none, .mov (.t 51)⟩])
    (.seq (.seq (.region [⟨some 52, none, .mov (.t 8)⟩,
      ⟨some 53, none, .bin false .neq (.t 52) (.c (.int .i64 0))⟩,
      ⟨some 54, none, .mov (.t 53)⟩,
      ⟨some 55, some (54, false), .mov (.t 13)⟩,
      ⟨some 56, some (54, false), .bin false .neq (.t 55) (.c (.int .i64 0))⟩,
      ⟨some 57, none, .pickb (.t 54) (.c (.bool true)) (.t 56)⟩])
    (.cond (.t 57) (.seq (.region [⟨some 58, none, .mov (.t 8)⟩,
      ⟨some 59, none, .bin false .eql (.t 58) (.c (.int .i64 0))⟩,
      ⟨some 60, none, .mov (.t 59)⟩,
      ⟨some 61, some (60, false), .mov (.t 11)⟩,
      ⟨some 62, some (60, false), .len false (.t 61)⟩,
      ⟨some 63, some (60, false), .bin false .eql (.t 62) (.c (.int .i64 0))⟩,
      ⟨some 64, none, .pickb (.t 60) (.c (.bool true)) (.t 63)⟩,
      ⟨some 65, none, .mov (.t 64)⟩,
      ⟨some 66, some (65, true), .mov (.t 13)⟩,
      ⟨some 67, some (65, true), .bin false .eql (.t 66) (.c (.int .i64 0))⟩,
      ⟨some 68, some (65, true), .mov (.t 67)⟩,
      ⟨some 69, some (68, false), .mov (.t 12)⟩,
      ⟨some 70, some (68, false), .len false (.t 69)⟩,
      ⟨some 71, some (68, false), .bin false .eql (.t 70) (.c (.int .i64 0))⟩,
      ⟨some 72, some (65, true), .pickb (.t 68) (.c (.bool true)) (.t 71)⟩,
      ⟨some 73, none, .pickb (.t 65) (.t 72) (.c (.bool false))⟩,
      ⟨some 6, none, .mov (.t 73)⟩])
    .ret)
    .skip))
    (.seq (.region [⟨some 75, none, .blist 0 5 1⟩,
      ⟨some 76, none, .mov (.t 1)⟩,
      ⟨some 77, none, .app 0 5 1 1 (.t 75) (.t 76)⟩,
      ⟨some 78, none, .mov (.t 2)⟩,
      ⟨some 79, none, .app 0 5 1 1 (.t 77) (.t 78)⟩,
      ⟨some 80, none, .call i_wire_Split [.t 79]⟩,
      ⟨some 74, none, .mov (.t 80)⟩,
      ⟨some 81, none, .ext 0 (.t 74)⟩,
      ⟨some 82, none, .ext 1 (.t 74)⟩,
      ⟨some 14, none, .mov (.t 81)⟩,
      ⟨some 15, none, .mov (.t 82)⟩])
    (.seq (.region [⟨some 84, none, .mov (.t 14)⟩,
      ⟨some 85, none, .call i_wire_Join [.t 84]⟩,
      ⟨some 83, none, .mov (.t 85)⟩,
      ⟨some 86, none, .ext 0 (.t 83)⟩,
      ⟨some 87, none, .ext 1 (.t 83)⟩,
      ⟨some 16, none, .mov (.t 86)⟩,
      ⟨some 17, none, .mov (.t 87)⟩])
    (.seq (.region [⟨some 89, none, .mov (.t 16)⟩,
      ⟨some 90, none, .call i_wire_Split [.t 89]⟩,
      ⟨some 88, none, .mov (.t 90)⟩,
      ⟨some 91, none, .ext 0 (.t 88)⟩,
      ⟨some 92, none, .ext 1 (.t 88)⟩,
      ⟨some 18, none, .mov (.t 91)⟩,
      ⟨some 19, none, .mov (.t 92)⟩])
    (.seq (.region [⟨some 93, none, .mov (.t 15)⟩,
      ⟨some 94, none, .bin false .eql (.t 93) (.c (.int .i64 0))⟩,
      ⟨some 95, none, .mov (.t 94)⟩,
      ⟨some 96, some (95, true), .mov (.t 17)⟩,
      ⟨some 97, some (95, true), .bin false .eql (.t 96) (.c (.int .i64 0))⟩,
      ⟨some 98, none, .pickb (.t 95) (.t 97) (.c (.bool false))⟩,
      ⟨some 99, none, .mov (.t 98)⟩,
      ⟨some 100, some (99, true), .mov (.t 19)⟩,
      ⟨some 101, some (99, true), .bin false .eql (.t 100) (.c (.int .i64 0))⟩,
      ⟨some 102, none, .pickb (.t 99) (.t 101) (.c (.bool false))⟩,
      ⟨some 103, none, .mov (.t 102)⟩,
      ⟨some 104, some (103, true), .mov (.t 14)⟩,
      ⟨some 105, some (103, true), .blist 1 60 4⟩,
      ⟨some 106, some (103, true), .mov (.t 11)⟩,
      ⟨some 107, some (103, true), .app 1 60 4 48 (.t 105) (.t 106)⟩,
      ⟨some 108, some (103, true), .mov (.t 12)⟩,
      ⟨some 109, some (103, true), .app 1 60 4 48 (.t 107) (.t 108)⟩,
      ⟨some 110, some (103, true), .call i_cartoucheref1_List [.t 104, .t 109]⟩,
      ⟨some 111, none, .pickb (.t 103) (.t 110) (.c (.bool false))⟩,
      ⟨some 112, none, .mov (.t 111)⟩,
      ⟨some 113, some (112, true), .mov (.t 18)⟩,
      ⟨some 114, some (112, true), .mov (.t 14)⟩,
      ⟨some 115, some (112, true), .call i_cartoucheref1_List [.t 113, .t 114]⟩,
      ⟨some 116, none, .pickb (.t 112) (.t 115) (.c (.bool false))⟩,
      ⟨some 6, none, .mov (.t 116)⟩])
    .ret))))))))))), [.tmp 6]⟩
theorem T_cartouchelaw1_WireJoins : trFn Try.prog [(15, [0, 0, 0, 0, 0, 0, 0, 0, 0, 0, 0, 0, 1, 0, 1, 0, 1, 0, 0, 0, 0, 0, 0, 0, 0])] Try.f10 = some A_cartouchelaw1_WireJoins := by kernel_rfl
theorem L_cartouchelaw1_WireJoins : 3 ≤ Try.f10.ntmps := by decide

/-! cartouche/wire.GetVarint -/
def A_wire_GetVarint : AFn := ⟨(.seq (.region [⟨some 4, none, .mov (.c (.int .u64 0))⟩,
      ⟨some 5, none, .mov (.c (.int .i64 0))⟩,
      ⟨some 6, none, .mov (.c (.int .i64 0))⟩])
    (.scope (.seq (.seq (.region [⟨some 9, none, .mov (.t 0)⟩,
      ⟨some 10, none, .mov (.t 1)⟩,
      ⟨some 11, none, .call i_wire_place [.t 9, .t 10]⟩,
      ⟨some 12, none, .un .not (.t 11)⟩])
    (.cond (.t 12) (.seq (.region [⟨some 4, none, .mov (.c (.int .u64 0))⟩,
      ⟨some 5, none, .mov (.c (.int .i64 0))⟩,
      ⟨some 6, none, .mov (.c (.int .i64 18))⟩])
    .ret)
    .skip))
    (.seq .label
    (.seq (.seq (.region [⟨some 13, none, .mov (.c (.int .i64 0))⟩])
    (.block 0 (.loop (.seq (.region [⟨some 14, none, .bin false .lss (.t 13) (.c (.int .i64 10))⟩])
    (.seq (.cond (.t 14) .skip
    (.exit 0))
    (.seq (.block 1 (.seq (.region [⟨some 15, none, .mov (.t 13)⟩,
      ⟨some 7, none, .mov (.t 15)⟩])
    (.seq (.seq (.region [⟨some 16, none, .mov (.t 1)⟩,
      ⟨some 17, none, .mov (.t 7)⟩,
      ⟨some 18, none, .bin false .add (.t 16) (.t 17)⟩,
      ⟨some 19, none, .mov (.t 0)⟩,
      ⟨some 20, none, .len false (.t 19)⟩,
      ⟨some 21, none, .bin false .eql (.t 18) (.t 20)⟩])
    (.cond (.t 21) (.exit 0)
    .skip))
    (.seq (.region [⟨some 22, none, .mov (.t 0)⟩,
      ⟨some 23, none, .mov (.t 1)⟩,
      ⟨some 24, none, .mov (.t 7)⟩,
      ⟨some 25, none, .bin false .add (.t 23) (.t 24)⟩,
      ⟨some 26, none, .idxA 1 (.t 22) (.t 25)⟩,
      ⟨some 27, none, .load 1 false (.t 26)⟩,
      ⟨some 8, none, .mov (.t 27)⟩])
    (.seq (.seq (.region [⟨some 28, none, .mov (.t 7)⟩,
      ⟨some 29, none, .bin false .eql (.t 28) (.c (.int .i64 9))⟩,
      ⟨some 30, none, .mov (.t 29)⟩,
      ⟨some 31, some (30, true), .mov (.t 8)⟩,
      ⟨some 32, some (30, true), .bin false .gtr (.t 31) (.c (.int .u8 1))⟩,
      ⟨some 33, none, .pickb (.t 30) (.t 32) (.c (.bool false))⟩])
    (.cond (.t 33) (.seq (.region [⟨some 4, none, .mov (.c (.int .u64 0))⟩,
      ⟨some 5, none, .mov (.c (.int .i64 0))⟩,
      ⟨some 6, none, .mov (.c (.int .i64 4))⟩])
    .ret)
    .skip))
    (.seq (.region [⟨some 34, none, .mov (.t 4)⟩,
      ⟨some 35, none, .mov (.t 8)⟩,
      ⟨some 36, none, .bin false .and (.t 35) (.c (.int .u8 127))⟩,
      ⟨some 37, none, .conv .u64 (.t 36)⟩,
      ⟨some 38, none, .mov (.t 7)⟩,
      ⟨some 39, none, .bin false .mul (.c (.int .i64 7)) (.t 38)⟩,
      ⟨some 40, none, .bin false .shl (.t 37) (.t 39)⟩,
      ⟨some 41, none, .bin false .or (.t 34) (.t 40)⟩,
      ⟨some 4, none, .mov (.t 41)⟩])
    (.seq (.region [⟨some 42, none, .mov (.t 8)⟩,
      ⟨some 43, none, .bin false .lss (.t 42) (.c (.int .u8 128))⟩])
    (.cond (.t 43) (.seq (.region [⟨some 44, none, .mov (.t 4)⟩,
      ⟨some 45, none, .mov (.t 1)⟩,
      ⟨some 46, none, .mov (.t 7)⟩,
      ⟨some 47, none, .bin false .add (.t 45) (.t 46)⟩,
      ⟨some 48, none, .bin false .add (.t 47) (.c (.int .i64 1))⟩,
      ⟨some 4, none, .mov (.t 44)⟩,
      ⟨some 5, none, .mov (.t 48)⟩,
      ⟨some 6, none, .mov (.c (.int .i64 0))⟩])
    .ret)
    .skip))))))))
    (.region [⟨some 49, none, .bin false .add (.t 13) (.c (.int .i64 1))⟩,
      ⟨some 13, none, .mov (.t 49)⟩])))))))
    (.seq (.region [⟨some 4, none, .mov (.c (.int .u64 0))⟩,
      ⟨some 5, none, .mov (.c (.int .i64 0))⟩,
      ⟨some 6, none, .mov (.c (.int .i64 3))⟩])
    .ret)))))), [.tmp 4, .tmp 5, .tmp 6]⟩
theorem T_wire_GetVarint : trFn Try.prog [] Try.f11 = some A_wire_GetVarint := by kernel_rfl
theorem L_wire_GetVarint : 2 ≤ Try.f11.ntmps := by decide

/-! cartouche/cartoucheref1.PutVarint -/
def A_cartoucheref1_PutVarint : AFn := ⟨(.seq (.region [⟨some 2, none, .mov (.c (.nil))⟩])
    (.seq (.region [⟨some 3, none, .mov (.c (.nil))⟩])
    (.seq (.block 0 (.loop (.seq (.seq (.region [⟨some 4, none, .mov (.t 0)⟩,
      ⟨some 5, none, .bin false .geq (.t 4) (.c (.int .u64 128))⟩])
    (.cond (.t 5) .skip
    (.exit 0)))
    (.block 1 (.seq (.region [⟨some 6, none, .mov (.t 3)⟩,
      ⟨some 7, none, .mov (.t 0)⟩,
      ⟨some 8, none, .bin false .rem (.t 7) (.c (.int .u64 128))⟩,
      ⟨some 9, none, .conv .u8 (.t 8)⟩,
      ⟨some 10, none, .bin false .add (.t 9) (.c (.int .u8 128))⟩,
      ⟨some 11, none, .bslice 1 [.t 10]⟩,
      ⟨some 12, none, .app 0 5 1 1 (.t 6) (.t 11)⟩,
      ⟨some 3, none, .mov (.t 12)⟩])
    (.region [⟨some 13, none, .mov (.t 0)⟩,
      ⟨some 14, none, .bin false .quo (.t 13) (.c (.int .u64 128))⟩,
      ⟨some 0, none, .mov (.t 14)⟩]))))))
    (.seq (.region [⟨some 15, none, .mov (.t 3)⟩,
      ⟨some 16, none, .mov (.t 0)⟩,
      ⟨some 17, none, .conv .u8 (.t 16)⟩,
      ⟨some 18, none, .bslice 1 [.t 17]⟩,
      ⟨some 19, none, .app 0 5 1 1 (.t 15) (.t 18)⟩,
      ⟨some 2, none, .mov (.t 19)⟩])
    .ret)))), [.tmp 2]⟩
theorem T_cartoucheref1_PutVarint : trFn Try.prog [] Try.f12 = some A_cartoucheref1_PutVarint := by kernel_rfl
theorem L_cartoucheref1_PutVarint : 1 ≤ Try.f12.ntmps := by decide

/-! cartouche/cartouchelaw1.awake -/
def A_cartouchelaw1_awake : AFn := ⟨(.seq (.region [⟨some 0, none, .mov (.c (.bool false))⟩])
    (.seq (.region [⟨some 5, none, .bslice 1 [.c (.int .u8 172), .c (.int .u8 2), .c (.int .u8 9)]⟩,
      ⟨some 6, none, .call i_wire_GetVarint [.t 5, .c (.int .i64 0)]⟩,
      ⟨some 4, none, .mov (.t 6)⟩,
      ⟨some 7, none, .ext 0 (.t 4)⟩,
      ⟨some 8, none, .ext 1 (.t 4)⟩,
      ⟨some 9, none, .ext 2 (.t 4)⟩,
      ⟨some 1, none, .mov (.t 7)⟩,
      ⟨some 2, none, .mov (.t 8)⟩,
      ⟨some 3, none, .mov (.t 9)⟩])
    (.seq (.region [⟨some 10, none, .call i_wire_PutVarint [.c (.int .u64 300)]⟩,
      ⟨some 11, none, .bslice 1 [.c (.int .u8 172), .c (.int .u8 2)]⟩,
      ⟨some 12, none, .call i_cartouchelaw1_same [.t 10, .t 11]⟩,
      ⟨some 13, none, .mov (.t 12)⟩,
      ⟨some 14, some (13, true), .mov (.t 1)⟩,
      ⟨some 15, some (13, true), .bin false .eql (.t 14) (.c (.int .u64 300))⟩,
      ⟨some 16, none, .pickb (.t 13) (.t 15) (.c (.bool false))⟩,
      ⟨some 17, none, .mov (.t 16)⟩,
      ⟨some 18, some (17, true), .mov (.t 2)⟩,
      ⟨some 19, some (17, true), .bin false .eql (.t 18) (.c (.int .i64 2))⟩,
      ⟨some 20, none, .pickb (.t 17) (.t 19) (.c (.bool false))⟩,
      ⟨some 21, none, .mov (.t 20)⟩,
      ⟨some 22, some (21, true), .mov (.t 3)⟩,
      ⟨some 23, some (21, true), .bin false .eql (.t 22) (.c (.int .i64 0))⟩,
      ⟨some 24, none, .pickb (.t 21) (.t 23) (.c (.bool false))⟩,
      ⟨some 0, none, .mov (.t 24)⟩])
    .ret))), [.tmp 0]⟩
theorem T_cartouchelaw1_awake : trFn Try.prog [] Try.f13 = some A_cartouchelaw1_awake := by kernel_rfl
theorem L_cartouchelaw1_awake : 0 ≤ Try.f13.ntmps := by decide

/-! cartouche/cartouchelaw1.same -/
def A_cartouchelaw1_same : AFn := ⟨(.seq (.region [⟨some 4, none, .mov (.c (.bool false))⟩])
    (.seq (.region [⟨some 5, none, .mov (.t 0)⟩,
      ⟨some 6, none, .b2s (.t 5)⟩,
      ⟨some 7, none, .mov (.t 1)⟩,
      ⟨some 8, none, .b2s (.t 7)⟩,
      ⟨some 9, none, .bin false .eql (.t 6) (.t 8)⟩,
      ⟨some 4, none, .mov (.t 9)⟩])
    .ret)), [.tmp 4]⟩
theorem T_cartouchelaw1_same : trFn Try.prog [] Try.f14 = some A_cartouchelaw1_same := by kernel_rfl
theorem L_cartouchelaw1_same : 2 ≤ Try.f14.ntmps := by decide

/-! cartouche/wire.PutVarint -/
def A_wire_PutVarint : AFn := ⟨(.seq (.region [⟨some 2, none, .mov (.c (.nil))⟩])
    (.seq (.region [⟨some 3, none, .mov (.t 0)⟩,
      ⟨some 4, none, .call i_wire_Size [.t 3]⟩,
      ⟨some 5, none, .mks 0 5 1 1 (.int .u8 0) (.c (.int .i64 0)) (.t 4)⟩,
      ⟨some 6, none, .mov (.t 0)⟩,
      ⟨some 7, none, .call i_wire_varint [.t 5, .t 6]⟩,
      ⟨some 2, none, .mov (.t 7)⟩])
    .ret)), [.tmp 2]⟩
theorem T_wire_PutVarint : trFn Try.prog [] Try.f15 = some A_wire_PutVarint := by kernel_rfl
theorem L_wire_PutVarint : 1 ≤ Try.f15.ntmps := by decide

/-! cartouche/wire.Size -/
def A_wire_Size : AFn := ⟨(.seq (.region [⟨some 2, none, .mov (.c (.int .i64 0))⟩])
    (.seq (.region [⟨some 3, none, .mov (.t 0)⟩,
      ⟨some 4, none, .call i_bits_Len64 [.t 3]⟩,
      ⟨some 5, none, .mm true (.c (.int .i64 1)) (.t 4)⟩,
      ⟨some 6, none, .bin false .add (.t 5) (.c (.int .i64 7))⟩,
      ⟨some 7, none, .bin false .sub (.t 6) (.c (.int .i64 1))⟩,
      ⟨some 8, none, .bin false .quo (.t 7) (.c (.int .i64 7))⟩,
      ⟨some 2, none, .mov (.t 8)⟩])
    .ret)), [.tmp 2]⟩
theorem T_wire_Size : trFn Try.prog [] Try.f16 = some A_wire_Size := by kernel_rfl
theorem L_wire_Size : 1 ≤ Try.f16.ntmps := by decide

/-! cartouche/wire.ZigZag -/
def A_wire_ZigZag : AFn := ⟨(.seq (.region [⟨some 2, none, .mov (.c (.int .u64 0))⟩])
    (.seq (.region [⟨some 3, none, .mov (.t 0)⟩,
      ⟨some 4, none, .conv .u64 (.t 3)⟩,
      ⟨some 5, none, .bin false .shl (.t 4) (.c (.int .u64 1))⟩,
      ⟨some 6, none, .mov (.t 0)⟩,
      ⟨some 7, none, .bin false .shr (.t 6) (.c (.int .u64 63))⟩,
      ⟨some 8, none, .conv .u64 (.t 7)⟩,
      ⟨some 9, none, .bin false .xor (.t 5) (.t 8)⟩,
      ⟨some 2, none, .mov (.t 9)⟩])
    .ret)), [.tmp 2]⟩
theorem T_wire_ZigZag : trFn Try.prog [] Try.f17 = some A_wire_ZigZag := by kernel_rfl
theorem L_wire_ZigZag : 1 ≤ Try.f17.ntmps := by decide

/-! cartouche/cartoucheref1.ZigZag -/
def A_cartoucheref1_ZigZag : AFn := ⟨(.seq (.region [⟨some 2, none, .mov (.c (.int .u64 0))⟩])
    (.seq (.seq (.region [⟨some 3, none, .mov (.t 0)⟩,
      ⟨some 4, none, .bin false .geq (.t 3) (.c (.int .i64 0))⟩])
    (.cond (.t 4) (.seq (.region [⟨some 5, none, .mov (.t 0)⟩,
      ⟨some 6, none, .conv .u64 (.t 5)⟩,
      ⟨some 7, none, .bin false .mul (.t 6) (.c (.int .u64 2))⟩,
      ⟨some 2, none, .mov (.t 7)⟩])
    .ret)
    .skip))
    (.seq (.region [⟨some 8, none, .mov (.t 0)⟩,
      ⟨some 9, none, .bin false .add (.t 8) (.c (.int .i64 1))⟩,
      ⟨some 10, none, .un .neg (.t 9)⟩,
      ⟨some 11, none, .conv .u64 (.t 10)⟩,
      ⟨some 12, none, .bin false .mul (.t 11) (.c (.int .u64 2))⟩,
      ⟨some 13, none, .bin false .add (.t 12) (.c (.int .u64 1))⟩,
      ⟨some 2, none, .mov (.t 13)⟩])
    .ret))), [.tmp 2]⟩
theorem T_cartoucheref1_ZigZag : trFn Try.prog [] Try.f18 = some A_cartoucheref1_ZigZag := by kernel_rfl
theorem L_cartoucheref1_ZigZag : 1 ≤ Try.f18.ntmps := by decide

/-! cartouche/wire.ZagZig -/
def A_wire_ZagZig : AFn := ⟨(.seq (.region [⟨some 2, none, .mov (.c (.int .i64 0))⟩])
    (.seq (.region [⟨some 3, none, .mov (.t 0)⟩,
      ⟨some 4, none, .bin false .shr (.t 3) (.c (.int .u64 1))⟩,
      ⟨some 5, none, .conv .i64 (.t 4)⟩,
      ⟨some 6, none, .mov (.t 0)⟩,
      ⟨some 7, none, .bin false .and (.t 6) (.c (.int .u64 1))⟩,
      ⟨some 8, none, .conv .i64 (.t 7)⟩,
      ⟨some 9, none, .un .neg (.t 8)⟩,
      ⟨some 10, none, .bin false .xor (.t 5) (.t 9)⟩,
      ⟨some 2, none, .mov (.t 10)⟩])
    .ret)), [.tmp 2]⟩
theorem T_wire_ZagZig : trFn Try.prog [] Try.f19 = some A_wire_ZagZig := by kernel_rfl
theorem L_wire_ZagZig : 1 ≤ Try.f19.ntmps := by decide

/-! cartouche/cartoucheref1.ZagZig -/
def A_cartoucheref1_ZagZig : AFn := ⟨(.seq (.region [⟨some 2, none, .mov (.c (.int .i64 0))⟩])
    (.seq (.seq (.region [⟨some 3, none, .mov (.t 0)⟩,
      ⟨some 4, none, .bin false .rem (.t 3) (.c (.int .u64 2))⟩,
      ⟨some 5, none, .bin false .eql (.t 4) (.c (.int .u64 0))⟩])
    (.cond (.t 5) (.seq (.region [⟨some 6, none, .mov (.t 0)⟩,
      ⟨some 7, none, .bin false .quo (.t 6) (.c (.int .u64 2))⟩,
      ⟨some 8, none, .conv .i64 (.t 7)⟩,
      ⟨some 2, none, .mov (.t 8)⟩])
    .ret)
    .skip))
    (.seq (.region [⟨some 9, none, .mov (.t 0)⟩,
      ⟨some 10, none, .bin false .quo (.t 9) (.c (.int .u64 2))⟩,
      ⟨some 11, none, .conv .i64 (.t 10)⟩,
      ⟨some 12, none, .un .neg (.t 11)⟩,
      ⟨some 13, none, .bin false .sub (.t 12) (.c (.int .i64 1))⟩,
      ⟨some 2, none, .mov (.t 13)⟩])
    .ret))), [.tmp 2]⟩
theorem T_cartoucheref1_ZagZig : trFn Try.prog [] Try.f20 = some A_cartoucheref1_ZagZig := by kernel_rfl
theorem L_cartoucheref1_ZagZig : 1 ≤ Try.f20.ntmps := by decide

/-! cartouche/cartoucheref1.GetVarint -/
def A_cartoucheref1_GetVarint : AFn := ⟨(.seq (.region [⟨some 4, none, .mov (.c (.int .u64 0))⟩,
      ⟨some 5, none, .mov (.c (.int .i64 0))⟩,
      ⟨some 6, none, .mov (.c (.int .i64 0))⟩])
    (.seq (.region [⟨some 7, none, .mov (.c (.int .u64 0))⟩])
    (.seq (.region [⟨some 8, none, .mov (.c (.int .i64 0))⟩])
    (.block 0 (.loop (.seq (.block 1 (.seq (.seq (.region [⟨some 12, none, .mov (.t 1)⟩,
      ⟨some 13, none, .mov (.t 8)⟩,
      ⟨some 14, none, .bin false .add (.t 12) (.t 13)⟩,
      ⟨some 15, none, .mov (.t 0)⟩,
      ⟨some 16, none, .len false (.t 15)⟩,
      ⟨some 17, none, .bin false .geq (.t 14) (.t 16)⟩])
    (.cond (.t 17) (.seq (.region [⟨some 4, none, .mov (.c (.int .u64 0))⟩,
      ⟨some 5, none, .mov (.c (.int .i64 0))⟩,
      ⟨some 6, none, .mov (.c (.int .i64 3))⟩])
    .ret)
    .skip))
    (.seq (.region [⟨some 18, none, .mov (.t 0)⟩,
      ⟨some 19, none, .mov (.t 1)⟩,
      ⟨some 20, none, .mov (.t 8)⟩,
      ⟨some 21, none, .bin false .add (.t 19) (.t 20)⟩,
      ⟨some 22, none, .idxA 1 (.t 18) (.t 21)⟩,
      ⟨some 23, none, .load 1 false (.t 22)⟩,
      ⟨some 9, none, .mov (.t 23)⟩])
    (.seq (.seq (.region [⟨some 24, none, .mov (.t 8)⟩,
      ⟨some 25, none, .bin false .eql (.t 24) (.c (.int .i64 9))⟩,
      ⟨some 26, none, .mov (.t 25)⟩,
      ⟨some 27, some (26, true), .mov (.t 9)⟩,
      ⟨some 28, some (26, true), .bin false .gtr (.t 27) (.c (.int .u8 1))⟩,
      ⟨some 29, none, .pickb (.t 26) (.t 28) (.c (.bool false))⟩])
    (.cond (.t 29) (.seq (.region [⟨some 4, none, .mov (.c (.int .u64 0))⟩,
      ⟨some 5, none, .mov (.c (.int .i64 0))⟩,
      ⟨some 6, none, .mov (.c (.int .i64 4))⟩])
    .ret)
    .skip))
    (.seq (.region [⟨some 30, none, .mov (.t 7)⟩,
      ⟨some 31, none, .mov (.t 9)⟩,
      ⟨some 32, none, .bin false .rem (.t 31) (.c (.int .u8 128))⟩,
      ⟨some 33, none, .conv .u64 (.t 32)⟩,
      ⟨some 34, none, .mov (.t 8)⟩,
      ⟨some 35, none, .bin false .mul (.c (.int .i64 7)) (.t 34)⟩,
      ⟨some 36, none, .conv .u64 (.t 35)⟩,
      ⟨some 37, none, .bin false .shl (.t 33) (.t 36)⟩,
      ⟨some 38, none, .bin false .or (.t 30) (.t 37)⟩,
      ⟨some 7, none, .mov (.t 38)⟩])
    (.seq (.region [⟨some 39, none, .mov (.t 9)⟩,
      ⟨some 40, none, .bin false .lss (.t 39) (.c (.int .u8 128))⟩])
    (.cond (.t 40) (.seq (.region [⟨some 41, none, .mov (.t 7)⟩,
      ⟨some 42, none, .mov (.t 1)⟩,
      ⟨some 43, none, .mov (.t 8)⟩,
      ⟨some 44, none, .bin false .add (.t 42) (.t 43)⟩,
      ⟨some 45, none, .bin false .add (.t 44) (.c (.int .i64 1))⟩,
      ⟨some 4, none, .mov (.t 41)⟩,
      ⟨some 5, none, .mov (.t 45)⟩,
      ⟨some 6, none, .mov (.c (.int .i64 0))⟩])
    .ret)
    .skip)))))))
    (.region [⟨some 10, none, .mov (.t 8)⟩,
      ⟨some 11, none, .bin false .add (.t 10) (.c (.int .i64 1))⟩,
      ⟨some 8, none, .mov (.t 11)⟩]))))))), [.tmp 4, .tmp 5, .tmp 6]⟩
theorem T_cartoucheref1_GetVarint : trFn Try.prog [] Try.f21 = some A_cartoucheref1_GetVarint := by kernel_rfl
theorem L_cartoucheref1_GetVarint : 2 ≤ Try.f21.ntmps := by decide

/-! cartouche/wire.PutTag -/
def A_wire_PutTag : AFn := ⟨(.seq (.region [⟨some 4, none, .mov (.c (.nil))⟩,
      ⟨some 5, none, .mov (.c (.int .i64 0))⟩])
    (.seq (.block 0 (.seq (.region [⟨some 7, none, .mov (.t 0)⟩,
      ⟨some 8, none, .bin false .lss (.t 7) (.c (.int .i64 1))⟩,
      ⟨some 9, none, .mov (.t 8)⟩,
      ⟨some 10, some (9, false), .mov (.t 0)⟩,
      ⟨some 11, some (9, false), .bin false .gtr (.t 10) (.c (.int .i64 536870911))⟩,
      ⟨some 12, none, .pickb (.t 9) (.c (.bool true)) (.t 11)⟩,
      ⟨some 6, none, .mov (.t 12)⟩])
    (.cond (.t 6) (.seq (.region [⟨some 4, none, .mov (.c (.nil))⟩,
      ⟨some 5, none, .mov (.c (.int .i64 5))⟩])
    .ret)
    (.seq (.region [⟨some 14, none, .mov (.t 1)⟩,
      ⟨some 15, none, .call i_wire_isKind [.t 14]⟩,
      ⟨some 16, none, .un .not (.t 15)⟩,
      ⟨some 13, none, .mov (.t 16)⟩])
    (.cond (.t 13) (.seq (.region [⟨some 4, none, .mov (.c (.nil))⟩,
      ⟨some 5, none, .mov (.c (.int .i64 6))⟩])
    .ret)
    .skip)))))
    (.seq (.region [⟨some 17, none, .mov (.t 0)⟩,
      ⟨some 18, none, .conv .u64 (.t 17)⟩,
      ⟨some 19, none, .bin false .mul (.t 18) (.c (.int .u64 8))⟩,
      ⟨some 20, none, .mov (.t 1)⟩,
      ⟨some 21, none, .conv .u64 (.t 20)⟩,
      ⟨some 22, none, .bin false .add (.t 19) (.t 21)⟩,
      ⟨some 23, none, .call i_wire_PutVarint [.t 22]⟩,
      ⟨some 4, none, .mov (.t 23)⟩,
      ⟨some 5, none, .mov (.c (.int .i64 0))⟩])
    .ret))), [.tmp 4, .tmp 5]⟩
theorem T_wire_PutTag : trFn Try.prog [] Try.f22 = some A_wire_PutTag := by kernel_rfl
theorem L_wire_PutTag : 2 ≤ Try.f22.ntmps := by decide

/-! cartouche/wire.GetTag -/
def A_wire_GetTag : AFn := ⟨(.seq (.region [⟨some 4, none, .mov (.c (.int .i64 0))⟩,
      ⟨some 5, none, .mov (.c (.int .i64 0))⟩,
      ⟨some 6, none, .mov (.c (.int .i64 0))⟩,
      ⟨some 7, none, .mov (.c (.int .i64 0))⟩])
    (.seq (.region [⟨some 10, none, .mov (.t 0)⟩,
      ⟨some 11, none, .mov (.t 1)⟩,
      ⟨some 12, none, .call i_wire_GetVarint [.t 10, .t 11]⟩,
      ⟨some 9, none, .mov (.t 12)⟩,
      ⟨some 13, none, .ext 0 (.t 9)⟩,
      ⟨some 14, none, .ext 1 (.t 9)⟩,
      ⟨some 15, none, .ext 2 (.t 9)⟩,
      ⟨some 8, none, .mov (.t 13)⟩,
      ⟨some 6, none, .mov (.t 14)⟩,
      ⟨some 7, none, .mov (.t 15)⟩])
    (.seq (.block 0 (.seq (.region [⟨some 17, none, .mov (.t 7)⟩,
      ⟨some 18, none, .bin false .neq (.t 17) (.c (.int .i64 0))⟩,
      ⟨some 16, none, .mov (.t 18)⟩])
    (.cond (.t 16) (.seq (.region [⟨some 19, none, .mov (.t 7)⟩,
      ⟨some 4, none, .mov (.c (.int .i64 0))⟩,
      ⟨some 5, none, .mov (.c (.int .i64 0))⟩,
      ⟨some 6, none, .mov (.c (.int .i64 0))⟩,
      ⟨some 7, none, .mov (.t 19)⟩])
    .ret)
    (.seq (.region [⟨some 21, none, .mov (.t 8)⟩,
      ⟨some 22, none, .bin false .quo (.t 21) (.c (.int .u64 8))⟩,
      ⟨some 23, none, .bin false .eql (.t 22) (.c (.int .u64 0))⟩,
      ⟨some 24, none, .mov (.t 23)⟩,
      ⟨some 25, some (24, false), .mov (.t 8)⟩,
      ⟨some 26, some (24, false), .bin false .quo (.t 25) (.c (.int .u64 8))⟩,
      ⟨some 27, some (24, false), .bin false .gtr (.t 26) (.c (.int .u64 536870911))⟩,
      ⟨some 28, none, .pickb (.t 24) (.c (.bool true)) (.t 27)⟩,
      ⟨some 20, none, .mov (.t 28)⟩])
    (.cond (.t 20) (.seq (.region [⟨some 4, none, .mov (.c (.int .i64 0))⟩,
      ⟨some 5, none, .mov (.c (.int .i64 0))⟩,
      ⟨some 6, none, .mov (.c (.int .i64 0))⟩,
      ⟨some 7, none, .mov (.c (.int .i64 5))⟩])
    .ret)
    (.seq (.region [⟨some 30, none, .mov (.t 8)⟩,
      ⟨some 31, none, .bin false .rem (.t 30) (.c (.int .u64 8))⟩,
      ⟨some 32, none, .conv .i64 (.t 31)⟩,
      ⟨some 33, none, .call i_wire_isKind [.t 32]⟩,
      ⟨some 34, none, .un .not (.t 33)⟩,
      ⟨some 29, none, .mov (.t 34)⟩])
    (.cond (.t 29) (.seq (.region [⟨some 4, none, .mov (.c (.int .i64 0))⟩,
      ⟨some 5, none, .mov (.c (.int .i64 0))⟩,
      ⟨some 6, none, .mov (.c (.int .i64 0))⟩,
      ⟨some 7, none, .mov (.c (.int .i64 6))⟩])
    .ret)
    .skip)))))))
    (.seq (.region [⟨some 35, none, .mov (.t 8)⟩,
      ⟨some 36, none, .bin false .quo (.t 35) (.c (.int .u64 8))⟩,
      ⟨some 37, none, .conv .i64 (.t 36)⟩,
      ⟨some 38, none, .mov (.t 8)⟩,
      ⟨some 39, none, .bin false .rem (.t 38) (.c (.int .u64 8))⟩,
      ⟨some 40, none, .conv .i64 (.t 39)⟩,
      ⟨some 41, none, .mov (.t 6)⟩,
      ⟨some 4, none, .mov (.t 37)⟩,
      ⟨some 5, none, .mov (.t 40)⟩,
      ⟨some 6, none, .mov (.t 41)⟩,
      ⟨some 7, none, .mov (.c (.int .i64 0))⟩])
    .ret)))), [.tmp 4, .tmp 5, .tmp 6, .tmp 7]⟩
theorem T_wire_GetTag : trFn Try.prog [] Try.f23 = some A_wire_GetTag := by kernel_rfl
theorem L_wire_GetTag : 2 ≤ Try.f23.ntmps := by decide

/-! cartouche/cartoucheref1.PutTag -/
def A_cartoucheref1_PutTag : AFn := ⟨(.seq (.region [⟨some 4, none, .mov (.c (.nil))⟩,
      ⟨some 5, none, .mov (.c (.int .i64 0))⟩])
    (.seq (.seq (.region [⟨some 6, none, .mov (.t 0)⟩,
      ⟨some 7, none, .bin false .lss (.t 6) (.c (.int .i64 1))⟩,
      ⟨some 8, none, .mov (.t 7)⟩,
      ⟨some 9, some (8, false), .mov (.t 0)⟩,
      ⟨some 10, some (8, false), .bin false .gtr (.t 9) (.c (.int .i64 536870911))⟩,
      ⟨some 11, none, .pickb (.t 8) (.c (.bool true)) (.t 10)⟩])
    (.cond (.t 11) (.seq (.region [⟨some 4, none, .mov (.c (.nil))⟩,
      ⟨some 5, none, .mov (.c (.int .i64 5))⟩])
    .ret)
    .skip))
    (.seq (.seq (.region [⟨some 12, none, .mov (.t 1)⟩,
      ⟨some 13, none, .call i_cartoucheref1_IsKind [.t 12]⟩,
      ⟨some 14, none, .un .not (.t 13)⟩])
    (.cond (.t 14) (.seq (.region [⟨some 4, none, .mov (.c (.nil))⟩,
      ⟨some 5, none, .mov (.c (.int .i64 6))⟩])
    .ret)
    .skip))
    (.seq (.region [⟨some 15, none, .mov (.t 0)⟩,
      ⟨some 16, none, .bin false .mul (.t 15) (.c (.int .i64 8))⟩,
      ⟨some 17, none, .mov (.t 1)⟩,
      ⟨some 18, none, .bin false .add (.t 16) (.t 17)⟩,
      ⟨some 19, none, .conv .u64 (.t 18)⟩,
      ⟨some 20, none, .call i_cartoucheref1_PutVarint [.t 19]⟩,
      ⟨some 4, none, .mov (.t 20)⟩,
      ⟨some 5, none, .mov (.c (.int .i64 0))⟩])
    .ret)))), [.tmp 4, .tmp 5]⟩
theorem T_cartoucheref1_PutTag : trFn Try.prog [] Try.f24 = some A_cartoucheref1_PutTag := by kernel_rfl
theorem L_cartoucheref1_PutTag : 2 ≤ Try.f24.ntmps := by decide

/-! cartouche/cartoucheref1.GetTag -/
def A_cartoucheref1_GetTag : AFn := ⟨(.seq (.region [⟨some 4, none, .mov (.c (.int .i64 0))⟩,
      ⟨some 5, none, .mov (.c (.int .i64 0))⟩,
      ⟨some 6, none, .mov (.c (.int .i64 0))⟩,
      ⟨some 7, none, .mov (.c (.int .i64 0))⟩])
    (.seq (.region [⟨some 12, none, .mov (.t 0)⟩,
      ⟨some 13, none, .mov (.t 1)⟩,
      ⟨some 14, none, .call i_cartoucheref1_GetVarint [.t 12, .t 13]⟩,
      ⟨some 11, none, .mov (.t 14)⟩,
      ⟨some 15, none, .ext 0 (.t 11)⟩,
      ⟨some 16, none, .ext 1 (.t 11)⟩,
      ⟨some 17, none, .ext 2 (.t 11)⟩,
      ⟨some 8, none, .mov (.t 15)⟩,
      ⟨some 9, none, .mov (.t 16)⟩,
      ⟨some 10, none, .mov (.t 17)⟩])
    (.seq (.seq (.region [⟨some 18, none, .mov (.t 10)⟩,
      ⟨some 19, none, .bin false .neq (.t 18) (.c (.int .i64 0))⟩])
    (.cond (.t 19) (.seq (.region [⟨some 20, none, .mov (.t 10)⟩,
      ⟨some 4, none, .mov (.c (.int .i64 0))⟩,
      ⟨some 5, none, .mov (.c (.int .i64 0))⟩,
      ⟨some 6, none, .mov (.c (.int .i64 0))⟩,
      ⟨some 7, none, .mov (.t 20)⟩])
    .ret)
    .skip))
    (.seq (.seq (.region [⟨some 21, none, .mov (.t 8)⟩,
      ⟨some 22, none, .bin false .quo (.t 21) (.c (.int .u64 8))⟩,
      ⟨some 23, none, .bin false .eql (.t 22) (.c (.int .u64 0))⟩,
      ⟨some 24, none, .mov (.t 23)⟩,
      ⟨some 25, some (24, false), .mov (.t 8)⟩,
      ⟨some 26, some (24, false), .bin false .quo (.t 25) (.c (.int .u64 8))⟩,
      ⟨some 27, some (24, false), .bin false .gtr (.t 26) (.c (.int .u64 536870911))⟩,
      ⟨some 28, none, .pickb (.t 24) (.c (.bool true)) (.t 27)⟩])
    (.cond (.t 28) (.seq (.region [⟨some 4, none, .mov (.c (.int .i64 0))⟩,
      ⟨some 5, none, .mov (.c (.int .i64 0))⟩,
      ⟨some 6, none, .mov (.c (.int .i64 0))⟩,
      ⟨some 7, none, .mov (.c (.int .i64 5))⟩])
    .ret)
    .skip))
    (.seq (.seq (.region [⟨some 29, none, .mov (.t 8)⟩,
      ⟨some 30, none, .bin false .rem (.t 29) (.c (.int .u64 8))⟩,
      ⟨some 31, none, .conv .i64 (.t 30)⟩,
      ⟨some 32, none, .call i_cartoucheref1_IsKind [.t 31]⟩,
      ⟨some 33, none, .un .not (.t 32)⟩])
    (.cond (.t 33) (.seq (.region [⟨some 4, none, .mov (.c (.int .i64 0))⟩,
      ⟨some 5, none, .mov (.c (.int .i64 0))⟩,
      ⟨some 6, none, .mov (.c (.int .i64 0))⟩,
      ⟨some 7, none, .mov (.c (.int .i64 6))⟩])
    .ret)
    .skip))
    (.seq (.region [⟨some 34, none, .mov (.t 8)⟩,
      ⟨some 35, none, .bin false .quo (.t 34) (.c (.int .u64 8))⟩,
      ⟨some 36, none, .conv .i64 (.t 35)⟩,
      ⟨some 37, none, .mov (.t 8)⟩,
      ⟨some 38, none, .bin false .rem (.t 37) (.c (.int .u64 8))⟩,
      ⟨some 39, none, .conv .i64 (.t 38)⟩,
      ⟨some 40, none, .mov (.t 9)⟩,
      ⟨some 4, none, .mov (.t 36)⟩,
      ⟨some 5, none, .mov (.t 39)⟩,
      ⟨some 6, none, .mov (.t 40)⟩,
      ⟨some 7, none, .mov (.c (.int .i64 0))⟩])
    .ret)))))), [.tmp 4, .tmp 5, .tmp 6, .tmp 7]⟩
theorem T_cartoucheref1_GetTag : trFn Try.prog [] Try.f25 = some A_cartoucheref1_GetTag := by kernel_rfl
theorem L_cartoucheref1_GetTag : 2 ≤ Try.f25.ntmps := by decide

/-! cartouche/wire.GetFix32 -/
def A_wire_GetFix32 : AFn := ⟨(.seq (.region [⟨some 4, none, .mov (.c (.int .u32 0))⟩,
      ⟨some 5, none, .mov (.c (.int .i64 0))⟩,
      ⟨some 6, none, .mov (.c (.int .i64 0))⟩])
    (.seq (.region [⟨some 9, none, .mov (.t 0)⟩,
      ⟨some 10, none, .mov (.t 1)⟩,
      ⟨some 11, none, .call i_wire_read [.t 9, .t 10, .c (.int .i64 4)]⟩,
      ⟨some 8, none, .mov (.t 11)⟩,
      ⟨some 12, none, .ext 0 (.t 8)⟩,
      ⟨some 13, none, .ext 1 (.t 8)⟩,
      ⟨some 14, none, .ext 2 (.t 8)⟩,
      ⟨some 7, none, .mov (.t 12)⟩,
      ⟨some 5, none, .mov (.t 13)⟩,
      ⟨some 6, none, .mov (.t 14)⟩])
    (.seq (.region [⟨some 15, none, .mov (.t 7)⟩,
      ⟨some 16, none, .conv .u32 (.t 15)⟩,
      ⟨some 17, none, .mov (.t 5)⟩,
      ⟨some 18, none, .mov (.t 6)⟩,
      ⟨some 4, none, .mov (.t 16)⟩,
      ⟨some 5, none, .mov (.t 17)⟩,
      ⟨some 6, none, .mov (.t 18)⟩])
    .ret))), [.tmp 4, .tmp 5, .tmp 6]⟩
theorem T_wire_GetFix32 : trFn Try.prog [] Try.f26 = some A_wire_GetFix32 := by kernel_rfl
theorem L_wire_GetFix32 : 2 ≤ Try.f26.ntmps := by decide

/-! cartouche/wire.GetFix64 -/
def A_wire_GetFix64 : AFn := ⟨(.seq (.region [⟨some 4, none, .mov (.c (.int .u64 0))⟩,
      ⟨some 5, none, .mov (.c (.int .i64 0))⟩,
      ⟨some 6, none, .mov (.c (.int .i64 0))⟩])
    (.seq (.region [⟨some 7, none, .mov (.t 0)⟩,
      ⟨some 8, none, .mov (.t 1)⟩,
      ⟨some 9, none, .call i_wire_read [.t 7, .t 8, .c (.int .i64 8)]⟩,
      ⟨some 10, none, .ext 0 (.t 9)⟩,
      ⟨some 11, none, .ext 1 (.t 9)⟩,
      ⟨some 12, none, .ext 2 (.t 9)⟩,
      ⟨some 4, none, .mov (.t 10)⟩,
      ⟨some 5, none, .mov (.t 11)⟩,
      ⟨some 6, none, .mov (.t 12)⟩])
    .ret)), [.tmp 4, .tmp 5, .tmp 6]⟩
theorem T_wire_GetFix64 : trFn Try.prog [] Try.f27 = some A_wire_GetFix64 := by kernel_rfl
theorem L_wire_GetFix64 : 2 ≤ Try.f27.ntmps := by decide

/-! cartouche/wire.GetChunk -/
def A_wire_GetChunk : AFn := ⟨(.seq (.region [⟨some 4, none, .mov (.c (.nil))⟩,
      ⟨some 5, none, .mov (.c (.int .i64 0))⟩,
      ⟨some 6, none, .mov (.c (.int .i64 0))⟩])
    (.seq (.region [⟨some 10, none, .mov (.t 0)⟩,
      ⟨some 11, none, .mov (.t 1)⟩,
      ⟨some 12, none, .call i_wire_Span [.t 10, .t 11]⟩,
      ⟨some 9, none, .mov (.t 12)⟩,
      ⟨some 13, none, .ext 0 (.t 9)⟩,
      ⟨some 14, none, .ext 1 (.t 9)⟩,
      ⟨some 15, none, .ext 2 (.t 9)⟩,
      ⟨some 7, none, .mov (.t 13)⟩,
      ⟨some 8, none, .mov (.t 14)⟩,
      ⟨some 6, none, .mov (.t 15)⟩])
    (.seq (.seq (.region [⟨some 16, none, .mov (.t 6)⟩,
      ⟨some 17, none, .bin false .neq (.t 16) (.c (.int .i64 0))⟩])
    (.cond (.t 17) (.seq (.region [⟨some 18, none, .mov (.t 6)⟩,
      ⟨some 4, none, .mov (.c (.nil))⟩,
      ⟨some 5, none, .mov (.c (.int .i64 0))⟩,
      ⟨some 6, none, .mov (.t 18)⟩])
    .ret)
    .skip))
    (.seq (.draw [3, 8] [⟨some 19, none, .mov (.t 8)⟩,
      ⟨some 20, none, .mov (.t 7)⟩,
      ⟨some 21, none, .bin false .sub (.t 19) (.t 20)⟩,
      ⟨some 22, none, .mks 0 5 1 1 (.int .u8 0) (.c (.int .i64 0)) (.t 21)⟩,
      ⟨some 23, none, .mov (.t 0)⟩,
      ⟨some 24, none, .mov (.t 7)⟩,
      ⟨some 25, none, .mov (.t 8)⟩,
      ⟨some 26, none, .slc 1 (.t 23) (some (.t 24)) (some (.t 25)) none⟩,
      ⟨some 27, none, .app 0 5 1 1 (.t 22) (.t 26)⟩,
      ⟨some 28, none, .mov (.t 8)⟩,
      ⟨some 4, none, .mov (.t 27)⟩,
      ⟨some 5, none, .mov (.t 28)⟩,
      ⟨some 6, none, .mov (.c (.int .i64 0))⟩])
    .ret)))), [.tmp 4, .tmp 5, .tmp 6]⟩
theorem T_wire_GetChunk : trFn Try.prog [(1000004, [3, 8])] Try.f28 = some A_wire_GetChunk := by kernel_rfl
theorem L_wire_GetChunk : 2 ≤ Try.f28.ntmps := by decide

/-! cartouche/wire.PutFix32 -/
def A_wire_PutFix32 : AFn := ⟨(.seq (.region [⟨some 2, none, .mov (.c (.nil))⟩])
    (.seq (.region [⟨some 3, none, .mov (.t 0)⟩,
      ⟨some 4, none, .conv .u64 (.t 3)⟩,
      ⟨some 5, none, .call i_wire_word [.t 4, .c (.int .i64 4)]⟩,
      ⟨some 2, none, .mov (.t 5)⟩])
    .ret)), [.tmp 2]⟩
theorem T_wire_PutFix32 : trFn Try.prog [] Try.f29 = some A_wire_PutFix32 := by kernel_rfl
theorem L_wire_PutFix32 : 1 ≤ Try.f29.ntmps := by decide

/-! cartouche/cartoucheref1.PutWord -/
def A_cartoucheref1_PutWord : AFn := ⟨(.seq (.region [⟨some 4, none, .mov (.c (.nil))⟩])
    (.seq (.region [⟨some 5, none, .mov (.c (.nil))⟩])
    (.seq (.seq (.region [⟨some 6, none, .mov (.c (.int .i64 0))⟩])
    (.block 0 (.loop (.seq (.seq (.region [⟨some 7, none, .mov (.t 6)⟩,
      ⟨some 8, none, .mov (.t 1)⟩,
      ⟨some 9, none, .bin false .lss (.t 7) (.t 8)⟩])
    (.cond (.t 9) .skip
    (.exit 0)))
    (.seq (.block 1 (.region [⟨some 12, none, .mov (.t 5)⟩,
      ⟨some 13, none, .mov (.t 0)⟩,
      ⟨some 14, none, .mov (.t 6)⟩,
      ⟨some 15, none, .bin false .mul (.c (.int .i64 8)) (.t 14)⟩,
      ⟨some 16, none, .conv .u64 (.t 15)⟩,
      ⟨some 17, none, .bin false .shr (.t 13) (.t 16)⟩,
      ⟨some 18, none, .conv .u8 (.t 17)⟩,
      ⟨some 19, none, .bslice 1 [.t 18]⟩,
      ⟨some 20, none, .app 0 5 1 1 (.t 12) (.t 19)⟩,
      ⟨some 5, none, .mov (.t 20)⟩]))
    (.region [⟨some 10, none, .mov (.t 6)⟩,
      ⟨some 11, none, .bin false .add (.t 10) (.c (.int .i64 1))⟩,
      ⟨some 6, none, .mov (.t 11)⟩]))))))
    (.seq (.region [⟨some 21, none, .mov (.t 5)⟩,
      ⟨some 4, none, .mov (.t 21)⟩])
    .ret)))), [.tmp 4]⟩
theorem T_cartoucheref1_PutWord : trFn Try.prog [] Try.f30 = some A_cartoucheref1_PutWord := by kernel_rfl
theorem L_cartoucheref1_PutWord : 2 ≤ Try.f30.ntmps := by decide

/-! cartouche/wire.PutFix64 -/
def A_wire_PutFix64 : AFn := ⟨(.seq (.region [⟨some 2, none, .mov (.c (.nil))⟩])
    (.seq (.region [⟨some 3, none, .mov (.t 0)⟩,
      ⟨some 4, none, .call i_wire_word [.t 3, .c (.int .i64 8)]⟩,
      ⟨some 2, none, .mov (.t 4)⟩])
    .ret)), [.tmp 2]⟩
theorem T_wire_PutFix64 : trFn Try.prog [] Try.f31 = some A_wire_PutFix64 := by kernel_rfl
theorem L_wire_PutFix64 : 1 ≤ Try.f31.ntmps := by decide

/-! cartouche/wire.PutChunk -/
def A_wire_PutChunk : AFn := ⟨(.seq (.region [⟨some 2, none, .mov (.c (.nil))⟩])
    (.seq (.region [⟨some 4, none, .mov (.t 0)⟩,
      ⟨some 5, none, .len false (.t 4)⟩,
      ⟨some 6, none, .conv .u64 (.t 5)⟩,
      ⟨some 3, none, .mov (.t 6)⟩])
    (.seq (.region [⟨some 7, none, .mov (.t 3)⟩,
      ⟨some 8, none, .call i_wire_Size [.t 7]⟩,
      ⟨some 9, none, .mov (.t 0)⟩,
      ⟨some 10, none, .len false (.t 9)⟩,
      ⟨some 11, none, .bin false .add (.t 8) (.t 10)⟩,
      ⟨some 12, none, .mks 0 5 1 1 (.int .u8 0) (.c (.int .i64 0)) (.t 11)⟩,
      ⟨some 13, none, .mov (.t 3)⟩,
      ⟨some 14, none, .call i_wire_varint [.t 12, .t 13]⟩,
      ⟨some 15, none, .mov (.t 0)⟩,
      ⟨some 16, none, .app 1 5 1 1 (.t 14) (.t 15)⟩,
      ⟨some 2, none, .mov (.t 16)⟩])
    .ret))), [.tmp 2]⟩
theorem T_wire_PutChunk : trFn Try.prog [(2, [0, 0, 0, 0, 0, 0, 0, 0, 0, 1, 0])] Try.f32 = some A_wire_PutChunk := by kernel_rfl
theorem L_wire_PutChunk : 1 ≤ Try.f32.ntmps := by decide

/-! cartouche/cartoucheref1.PutChunk -/
def A_cartoucheref1_PutChunk : AFn := ⟨(.seq (.region [⟨some 2, none, .mov (.c (.nil))⟩])
    (.seq (.region [⟨some 3, none, .mov (.t 0)⟩,
      ⟨some 4, none, .len false (.t 3)⟩,
      ⟨some 5, none, .conv .u64 (.t 4)⟩,
      ⟨some 6, none, .call i_cartoucheref1_PutVarint [.t 5]⟩,
      ⟨some 7, none, .mov (.t 0)⟩,
      ⟨some 8, none, .app 0 5 1 1 (.t 6) (.t 7)⟩,
      ⟨some 2, none, .mov (.t 8)⟩])
    .ret)), [.tmp 2]⟩
theorem T_cartoucheref1_PutChunk : trFn Try.prog [] Try.f33 = some A_cartoucheref1_PutChunk := by kernel_rfl
theorem L_cartoucheref1_PutChunk : 1 ≤ Try.f33.ntmps := by decide

/-! cartouche/cartoucheref1.Word -/
def A_cartoucheref1_Word : AFn := ⟨(.seq (.region [⟨some 6, none, .mov (.c (.int .u64 0))⟩,
      ⟨some 7, none, .mov (.c (.int .i64 0))⟩,
      ⟨some 8, none, .mov (.c (.int .i64 0))⟩])
    (.seq (.seq (.region [⟨some 11, none, .mov (.t 0)⟩,
      ⟨some 12, none, .len false (.t 11)⟩,
      ⟨some 13, none, .mov (.t 1)⟩,
      ⟨some 14, none, .bin false .sub (.t 12) (.t 13)⟩,
      ⟨some 15, none, .mov (.t 2)⟩,
      ⟨some 16, none, .bin false .lss (.t 14) (.t 15)⟩])
    (.cond (.t 16) (.seq (.region [⟨some 6, none, .mov (.c (.int .u64 0))⟩,
      ⟨some 7, none, .mov (.c (.int .i64 0))⟩,
      ⟨some 8, none, .mov (.c (.int .i64 3))⟩])
    .ret)
    .skip))
    (.seq (.region [⟨some 9, none, .mov (.c (.int .u64 0))⟩])
    (.seq (.seq (.region [⟨some 17, none, .mov (.t 2)⟩,
      ⟨some 18, none, .bin false .sub (.t 17) (.c (.int .i64 1))⟩,
      ⟨some 10, none, .mov (.t 18)⟩])
    (.block 0 (.loop (.seq (.seq (.region [⟨some 19, none, .mov (.t 10)⟩,
      ⟨some 20, none, .bin false .geq (.t 19) (.c (.int .i64 0))⟩])
    (.cond (.t 20) .skip
    (.exit 0)))
    (.seq (.block 1 (.region [⟨some 23, none, .mov (.t 9)⟩,
      ⟨some 24, none, .bin false .mul (.t 23) (.c (.int .u64 256))⟩,
      ⟨some 25, none, .mov (.t 0)⟩,
      ⟨some 26, none, .mov (.t 1)⟩,
      ⟨some 27, none, .mov (.t 10)⟩,
      ⟨some 28, none, .bin false .add (.t 26) (.t 27)⟩,
      ⟨some 29, none, .idxA 1 (.t 25) (.t 28)⟩,
      ⟨some 30, none, .load 1 false (.t 29)⟩,
      ⟨some 31, none, .conv .u64 (.t 30)⟩,
      ⟨some 32, none, .bin false .add (.t 24) (.t 31)⟩,
      ⟨some 9, none, .mov (.t 32)⟩]))
    (.region [⟨some 21, none, .mov (.t 10)⟩,
      ⟨some 22, none, .bin false .sub (.t 21) (.c (.int .i64 1))⟩,
      ⟨some 10, none, .mov (.t 22)⟩]))))))
    (.seq (.region [⟨some 33, none, .mov (.t 9)⟩,
      ⟨some 34, none, .mov (.t 1)⟩,
      ⟨some 35, none, .mov (.t 2)⟩,
      ⟨some 36, none, .bin false .add (.t 34) (.t 35)⟩,
      ⟨some 6, none, .mov (.t 33)⟩,
      ⟨some 7, none, .mov (.t 36)⟩,
      ⟨some 8, none, .mov (.c (.int .i64 0))⟩])
    .ret))))), [.tmp 6, .tmp 7, .tmp 8]⟩
theorem T_cartoucheref1_Word : trFn Try.prog [] Try.f34 = some A_cartoucheref1_Word := by kernel_rfl
theorem L_cartoucheref1_Word : 3 ≤ Try.f34.ntmps := by decide

/-! cartouche/cartoucheref1.GetChunk -/
def A_cartoucheref1_GetChunk : AFn := ⟨(.seq (.region [⟨some 4, none, .mov (.c (.nil))⟩,
      ⟨some 5, none, .mov (.c (.int .i64 0))⟩,
      ⟨some 6, none, .mov (.c (.int .i64 0))⟩])
    (.seq (.region [⟨some 12, none, .mov (.t 0)⟩,
      ⟨some 13, none, .mov (.t 1)⟩,
      ⟨some 14, none, .call i_cartoucheref1_GetVarint [.t 12, .t 13]⟩,
      ⟨some 11, none, .mov (.t 14)⟩,
      ⟨some 15, none, .ext 0 (.t 11)⟩,
      ⟨some 16, none, .ext 1 (.t 11)⟩,
      ⟨some 17, none, .ext 2 (.t 11)⟩,
      ⟨some 7, none, .mov (.t 15)⟩,
      ⟨some 8, none, .mov (.t 16)⟩,
      ⟨some 9, none, .mov (.t 17)⟩])
    (.seq (.seq (.region [⟨some 18, none, .mov (.t 9)⟩,
      ⟨some 19, none, .bin false .neq (.t 18) (.c (.int .i64 0))⟩])
    (.cond (.t 19) (.seq (.region [⟨some 20, none, .mov (.t 9)⟩,
      ⟨some 4, none, .mov (.c (.nil))⟩,
      ⟨some 5, none, .mov (.c (.int .i64 0))⟩,
      ⟨some 6, none, .mov (.t 20)⟩])
    .ret)
    .skip))
    (.seq (.seq (.region [⟨some 21, none, .mov (.t 7)⟩,
      ⟨some 22, none, .mov (.t 0)⟩,
      ⟨some 23, none, .len false (.t 22)⟩,
      ⟨some 24, none, .mov (.t 8)⟩,
      ⟨some 25, none, .bin false .sub (.t 23) (.t 24)⟩,
      ⟨some 26, none, .conv .u64 (.t 25)⟩,
      ⟨some 27, none, .bin false .gtr (.t 21) (.t 26)⟩])
    (.cond (.t 27) (.seq (.region [⟨some 4, none, .mov (.c (.nil))⟩,
      ⟨some 5, none, .mov (.c (.int .i64 0))⟩,
      ⟨some 6, none, .mov (.c (.int .i64 3))⟩])
    .ret)
    .skip))
    (.seq (.region [⟨some 10, none, .mov (.c (.nil))⟩])
    (.seq (.region [⟨some 28, none, .mov (.t 10)⟩,
      ⟨some 29, none, .mov (.t 0)⟩,
      ⟨some 30, none, .mov (.t 8)⟩,
      ⟨some 31, none, .mov (.t 8)⟩,
      ⟨some 32, none, .mov (.t 7)⟩,
      ⟨some 33, none, .conv .i64 (.t 32)⟩,
      ⟨some 34, none, .bin false .add (.t 31) (.t 33)⟩,
      ⟨some 35, none, .slc 1 (.t 29) (some (.t 30)) (some (.t 34)) none⟩,
      ⟨some 36, none, .app 0 5 1 1 (.t 28) (.t 35)⟩,
      ⟨some 37, none, .mov (.t 8)⟩,
      ⟨some 38, none, .mov (.t 7)⟩,
      ⟨some 39, none, .conv .i64 (.t 38)⟩,
      ⟨some 40, none, .bin false .add (.t 37) (.t 39)⟩,
      ⟨some 4, none, .mov (.t 36)⟩,
      ⟨some 5, none, .mov (.t 40)⟩,
      ⟨some 6, none, .mov (.c (.int .i64 0))⟩])
    .ret)))))), [.tmp 4, .tmp 5, .tmp 6]⟩
theorem T_cartoucheref1_GetChunk : trFn Try.prog [] Try.f35 = some A_cartoucheref1_GetChunk := by kernel_rfl
theorem L_cartoucheref1_GetChunk : 2 ≤ Try.f35.ntmps := by decide

/-! cartouche/wire.Split -/
def A_wire_Split : AFn := ⟨(.seq (.region [⟨some 2, none, .mov (.c (.nil))⟩,
      ⟨some 3, none, .mov (.c (.int .i64 0))⟩])
    (.seq (.region [⟨some 4, none, .mov (.c (.nil))⟩])
    (.seq (.seq (.region [⟨some 5, none, .mov (.c (.int .i64 0))⟩])
    (.block 0 (.loop (.seq (.seq (.region [⟨some 9, none, .mov (.t 5)⟩,
      ⟨some 10, none, .mov (.t 0)⟩,
      ⟨some 11, none, .len false (.t 10)⟩,
      ⟨some 12, none, .bin false .lss (.t 9) (.t 11)⟩])
    (.cond (.t 12) .skip
    (.exit 0)))
    (.block 1 (.seq (.region [⟨some 14, none, .mov (.t 0)⟩,
      ⟨some 15, none, .mov (.t 5)⟩,
      ⟨some 16, none, .call i_wire_GetEntry [.t 14, .t 15]⟩,
      ⟨some 13, none, .mov (.t 16)⟩,
      ⟨some 17, none, .ext 0 (.t 13)⟩,
      ⟨some 18, none, .ext 1 (.t 13)⟩,
      ⟨some 19, none, .ext 2 (.t 13)⟩,
      ⟨some 6, none, .alloc 0 [.int .i64 0, .int .i64 0, .int .u64 0, .nil]⟩,
      ⟨none, none, .store 4 (.t 6) (.t 17)⟩,
      ⟨some 7, none, .mov (.t 18)⟩,
      ⟨some 8, none, .mov (.t 19)⟩])
    (.seq (.seq (.region [⟨some 20, none, .mov (.t 8)⟩,
      ⟨some 21, none, .bin false .neq (.t 20) (.c (.int .i64 0))⟩])
    (.cond (.t 21) (.seq (.region [⟨some 22, none, .mov (.t 8)⟩,
      ⟨some 2, none, .mov (.c (.nil))⟩,
      ⟨some 3, none, .mov (.t 22)⟩])
    .ret)
    .skip))
    (.region [⟨some 23, none, .mov (.t 4)⟩,
      ⟨some 24, none, .load 4 true (.t 6)⟩,
      ⟨some 25, none, .bslice 4 [.t 24]⟩,
      ⟨some 26, none, .app 1 60 4 48 (.t 23) (.t 25)⟩,
      ⟨some 27, none, .mov (.t 7)⟩,
      ⟨some 4, none, .mov (.t 26)⟩,
      ⟨some 5, none, .mov (.t 27)⟩]))))))))
    (.seq (.region [⟨some 28, none, .mov (.t 4)⟩,
      ⟨some 29, none, .len false (.t 28)⟩,
      ⟨some 30, none, .mks 2 60 4 48 (.agg [.int .i64 0, .int .i64 0, .int .u64 0, .nil]) (.c (.int .i64 0)) (.t 29)⟩,
      ⟨some 31, none, .mov (.t 4)⟩,
      ⟨some 32, none, .app 2 60 4 48 (.t 30) (.t 31)⟩,
      ⟨some 2, none, .mov (.t 32)⟩,
      ⟨some 3, none, .mov (.c (.int .i64 0))⟩])
    .ret)))), [.tmp 2, .tmp 3]⟩
theorem T_wire_Split : trFn Try.prog [(4, [0, 0, 0, 0, 0, 0, 0, 1, 0, 0, 0]), (7, [0, 0, 0, 1, 0, 0, 0]), (8, [0, 0, 2, 0, 2, 0, 0])] Try.f36 = some A_wire_Split := by kernel_rfl
theorem L_wire_Split : 1 ≤ Try.f36.ntmps := by decide

/-! cartouche/cartoucheref1.List -/
def A_cartoucheref1_List : AFn := ⟨(.seq (.region [⟨some 4, none, .mov (.c (.bool false))⟩])
    (.seq (.seq (.region [⟨some 6, none, .mov (.t 0)⟩,
      ⟨some 7, none, .len false (.t 6)⟩,
      ⟨some 8, none, .mov (.t 1)⟩,
      ⟨some 9, none, .len false (.t 8)⟩,
      ⟨some 10, none, .bin false .neq (.t 7) (.t 9)⟩])
    (.cond (.t 10) (.seq (.region [⟨some 4, none, .mov (.c (.bool false))⟩])
    .ret)
    .skip))
    (.seq (.seq (.region [⟨some 5, none, .mov (.c (.int .i64 0))⟩])
    (.block 0 (.loop (.seq (.seq (.region [⟨some 11, none, .mov (.t 5)⟩,
      ⟨some 12, none, .mov (.t 0)⟩,
      ⟨some 13, none, .len false (.t 12)⟩,
      ⟨some 14, none, .bin false .lss (.t 11) (.t 13)⟩])
    (.cond (.t 14) .skip
    (.exit 0)))
    (.seq (.block 1 (.seq (.draw [] [⟨some 17, none, .mov (.t 0)⟩,
      ⟨some 18, none, .mov (.t 5)⟩,
      ⟨some 19, none, .idxA 4 (.t 17) (.t 18)⟩,
      ⟨some 20, none, .load 4 true (.t 19)⟩,
      ⟨some 21, none, .mov (.t 1)⟩,
      ⟨some 22, none, .mov (.t 5)⟩,
      ⟨some 23, none, .idxA 4 (.t 21) (.t 22)⟩,
      ⟨some 24, none, .load 4 true (.t 23)⟩,
      ⟨some 25, none, .call i_cartoucheref1_Same [.t 20, .t 24]⟩,
      ⟨some 26, none, .un .not (.t 25)⟩])
    (.cond (.t 26) (.seq (.region [⟨some 4, none, .mov (.c (.bool false))⟩])
    .ret)
    .skip)))
    (.region [⟨some 15, none, .mov (.t 5)⟩,
      ⟨some 16, none, .bin false .add (.t 15) (.c (.int .i64 1))⟩,
      ⟨some 5, none, .mov (.t 16)⟩]))))))
    (.seq (.region [⟨some 4, none, .mov (.c (.bool true))⟩])
    .ret)))), [.tmp 4]⟩
theorem T_cartoucheref1_List : trFn Try.prog [] Try.f37 = some A_cartoucheref1_List := by kernel_rfl
theorem L_cartoucheref1_List : 2 ≤ Try.f37.ntmps := by decide

/-! cartouche/wire.PutEntry -/
def A_wire_PutEntry : AFn := ⟨(.seq (.region [⟨some 1, none, .boxI (.t 0)⟩,
      ⟨some 2, none, .mov (.c (.nil))⟩,
      ⟨some 3, none, .mov (.c (.int .i64 0))⟩])
    (.seq (.region [⟨some 7, none, .fldA 0 1 false (.t 1)⟩,
      ⟨some 8, none, .load 1 false (.t 7)⟩,
      ⟨some 9, none, .fldA 1 1 false (.t 1)⟩,
      ⟨some 10, none, .load 1 false (.t 9)⟩,
      ⟨some 11, none, .call i_wire_PutTag [.t 8, .t 10]⟩,
      ⟨some 6, none, .mov (.t 11)⟩,
      ⟨some 12, none, .ext 0 (.t 6)⟩,
      ⟨some 13, none, .ext 1 (.t 6)⟩,
      ⟨some 4, none, .mov (.t 12)⟩,
      ⟨some 5, none, .mov (.t 13)⟩])
    (.seq (.block 0 (.seq (.region [⟨some 15, none, .mov (.t 5)⟩,
      ⟨some 16, none, .bin false .neq (.t 15) (.c (.int .i64 0))⟩,
      ⟨some 14, none, .mov (.t 16)⟩])
    (.cond (.t 14) (.seq (.region [⟨some 17, none, .mov (.t 5)⟩,
      ⟨some 2, none, .mov (.c (.nil))⟩,
      ⟨some 3, none, .mov (.t 17)⟩])
    .ret)
    (.seq (.seq (.region [⟨some 19, none, .fldA 1 1 false (.t 1)⟩,
      ⟨some 20, none, .load 1 false (.t 19)⟩,
      ⟨some 21, none, .bin false .eql (.t 20) (.c (.int .i64 5))⟩,
      ⟨some 22, none, .mov (.t 21)⟩,
      ⟨some 23, some (22, true), .fldA 2 1 false (.t 1)⟩,
      ⟨some 24, some (22, true), .load 1 false (.t 23)⟩,
      ⟨some 25, some (22, true), .bin false .shr (.t 24) (.c (.int .u64 32))⟩,
      ⟨some 26, some (22, true), .bin false .neq (.t 25) (.c (.int .u64 0))⟩,
      ⟨some 27, none, .pickb (.t 22) (.t 26) (.c (.bool false))⟩,
      ⟨some 18, none, .mov (.t 27)⟩])
    (.cond (.t 18) .skip
    (.seq (.region [⟨some 28, none, .fldA 1 1 false (.t 1)⟩,
      ⟨some 29, none, .load 1 false (.t 28)⟩,
      ⟨some 30, none, .bin false .eql (.t 29) (.c (.int .i64 2))⟩,
      ⟨some 31, none, .mov (.t 30)⟩,
      ⟨some 32, some (31, true), .fldA 2 1 false (.t 1)⟩,
      ⟨some 33, some (31, true), .load 1 false (.t 32)⟩,
      ⟨some 34, some (31, true), .bin false .neq (.t 33) (.c (.int .u64 0))⟩,
      ⟨some 35, none, .pickb (.t 31) (.t 34) (.c (.bool false))⟩,
      ⟨some 18, none, .mov (.t 35)⟩])
    (.cond (.t 18) .skip
    (.region [⟨some 36, none, .fldA 1 1 false (.t 1)⟩,
      ⟨some 37, none, .load 1 false (.t 36)⟩,
      ⟨some 38, none, .bin false .neq (.t 37) (.c (.int .i64 2))⟩,
      ⟨some 39, none, .mov (.t 38)⟩,
      ⟨some 40, some (39, true), .fldA 3 1 false (.t 1)⟩,
      ⟨some 41, some (39, true), .load 1 false (.t 40)⟩,
      ⟨some 42, some (39, true), .len false (.t 41)⟩,
      ⟨some 43, some (39, true), .bin false .gtr (.t 42) (.c (.int .i64 0))⟩,
      ⟨some 44, none, .pickb (.t 39) (.t 43) (.c (.bool false))⟩,
      ⟨some 18, none, .mov (.t 44)⟩])))))
    (.cond (.t 18) (.seq (.region [⟨some 2, none, .mov (.c (.nil))⟩,
      ⟨some 3, none, .mov (.c (.int .i64 7))⟩])
    .ret)
    .skip)))))
    (.seq (.seq (.region [⟨some 45, none, .fldA 1 1 false (.t 1)⟩,
      ⟨some 46, none, .load 1 false (.t 45)⟩])
    (.block 1 (.seq (.region [⟨some 57, none, .bin false .eql (.t 46) (.c (.int .i64 0))⟩,
      ⟨some 56, none, .mov (.t 57)⟩])
    (.cond (.t 56) (.region [⟨some 58, none, .mov (.t 4)⟩,
      ⟨some 59, none, .fldA 2 1 false (.t 1)⟩,
      ⟨some 60, none, .load 1 false (.t 59)⟩,
      ⟨some 61, none, .call i_wire_varint [.t 58, .t 60]⟩,
      ⟨some 4, none, .mov (.t 61)⟩])
    (.seq (.region [⟨some 63, none, .bin false .eql (.t 46) (.c (.int .i64 1))⟩,
      ⟨some 62, none, .mov (.t 63)⟩])
    (.cond (.t 62) (.region [⟨some 64, none, .mov (.t 4)⟩,
      ⟨some 65, none, .fldA 2 1 false (.t 1)⟩,
      ⟨some 66, none, .load 1 false (.t 65)⟩,
      ⟨some 67, none, .call i_wire_word [.t 66, .c (.int .i64 8)]⟩,
      ⟨some 68, none, .app 0 5 1 1 (.t 64) (.t 67)⟩,
      ⟨some 4, none, .mov (.t 68)⟩])
    (.seq (.region [⟨some 70, none, .bin false .eql (.t 46) (.c (.int .i64 5))⟩,
      ⟨some 69, none, .mov (.t 70)⟩])
    (.cond (.t 69) (.region [⟨some 71, none, .mov (.t 4)⟩,
      ⟨some 72, none, .fldA 2 1 false (.t 1)⟩,
      ⟨some 73, none, .load 1 false (.t 72)⟩,
      ⟨some 74, none, .call i_wire_word [.t 73, .c (.int .i64 4)]⟩,
      ⟨some 75, none, .app 0 5 1 1 (.t 71) (.t 74)⟩,
      ⟨some 4, none, .mov (.t 75)⟩])
    (.draw [5, 8] [⟨some 47, none, .mov (.t 4)⟩,
      ⟨some 48, none, .fldA 3 1 false (.t 1)⟩,
      ⟨some 49, none, .load 1 false (.t 48)⟩,
      ⟨some 50, none, .len false (.t 49)⟩,
      ⟨some 51, none, .conv .u64 (.t 50)⟩,
      ⟨some 52, none, .call i_wire_varint [.t 47, .t 51]⟩,
      ⟨some 53, none, .fldA 3 1 false (.t 1)⟩,
      ⟨some 54, none, .load 1 false (.t 53)⟩,
      ⟨some 55, none, .app 1 5 1 1 (.t 52) (.t 54)⟩,
      ⟨some 4, none, .mov (.t 55)⟩])))))))))
    (.seq (.region [⟨some 76, none, .mov (.t 4)⟩,
      ⟨some 77, none, .len false (.t 76)⟩,
      ⟨some 78, none, .mks 2 5 1 1 (.int .u8 0) (.c (.int .i64 0)) (.t 77)⟩,
      ⟨some 79, none, .mov (.t 4)⟩,
      ⟨some 80, none, .app 2 5 1 1 (.t 78) (.t 79)⟩,
      ⟨some 2, none, .mov (.t 80)⟩,
      ⟨some 3, none, .mov (.c (.int .i64 0))⟩])
    .ret))))), [.tmp 2, .tmp 3]⟩
theorem T_wire_PutEntry : trFn Try.prog [(9, [0, 0, 0, 0, 0, 0, 0, 0, 1, 0]), (16, [0, 0, 2, 0, 2, 0, 0]), (1000009, [5, 8])] Try.f38 = some A_wire_PutEntry := by kernel_rfl
theorem L_wire_PutEntry : 1 ≤ Try.f38.ntmps := by decide

/-! cartouche/wire.GetEntry -/
def A_wire_GetEntry : AFn := ⟨(.seq (.region [⟨some 4, none, .alloc 0 [.int .i64 0, .int .i64 0, .int .u64 0, .nil]⟩,
      ⟨some 5, none, .mov (.c (.int .i64 0))⟩,
      ⟨some 6, none, .mov (.c (.int .i64 0))⟩])
    (.seq (.seq (.region [⟨some 8, none, .mov (.t 0)⟩,
      ⟨some 9, none, .mov (.t 1)⟩,
      ⟨some 10, none, .call i_wire_GetTag [.t 8, .t 9]⟩,
      ⟨some 7, none, .mov (.t 10)⟩,
      ⟨some 11, none, .ext 0 (.t 7)⟩,
      ⟨some 12, none, .ext 1 (.t 7)⟩,
      ⟨some 13, none, .ext 2 (.t 7)⟩,
      ⟨some 14, none, .ext 3 (.t 7)⟩,
      ⟨some 15, none, .fldA 0 1 false (.t 4)⟩,
      ⟨none, none, .store 1 (.t 15) (.t 11)⟩,
      ⟨some 16, none, .fldA 1 1 false (.t 4)⟩,
      ⟨none, none, .store 1 (.t 16) (.t 12)⟩,
      ⟨some 5, none, .mov (.t 13)⟩,
      ⟨some 6, none, .mov (.t 14)⟩])
    (.seq (.region [⟨some 17, none, .mov (.t 6)⟩,
      ⟨some 18, none, .bin false .neq (.t 17) (.c (.int .i64 0))⟩])
    (.cond (.t 18) (.seq (.region [⟨some 19, none, .build [.int .i64 0, .int .i64 0, .int .u64 0, .nil] []⟩,
      ⟨some 20, none, .mov (.t 6)⟩,
      ⟨none, none, .store 4 (.t 4) (.t 19)⟩,
      ⟨some 5, none, .mov (.c (.int .i64 0))⟩,
      ⟨some 6, none, .mov (.t 20)⟩])
    .ret)
    .skip)))
    (.seq (.seq (.region [⟨some 21, none, .fldA 1 1 false (.t 4)⟩,
      ⟨some 22, none, .load 1 false (.t 21)⟩])
    (.block 0 (.seq (.region [⟨some 32, none, .bin false .eql (.t 22) (.c (.int .i64 0))⟩,
      ⟨some 31, none, .mov (.t 32)⟩])
    (.cond (.t 31) (.region [⟨some 34, none, .mov (.t 0)⟩,
      ⟨some 35, none, .mov (.t 5)⟩,
      ⟨some 36, none, .call i_wire_GetVarint [.t 34, .t 35]⟩,
      ⟨some 33, none, .mov (.t 36)⟩,
      ⟨some 37, none, .ext 0 (.t 33)⟩,
      ⟨some 38, none, .ext 1 (.t 33)⟩,
      ⟨some 39, none, .ext 2 (.t 33)⟩,
      ⟨some 40, none, .fldA 2 1 false (.t 4)⟩,
      ⟨none, none, .store 1 (.t 40) (.t 37)⟩,
      ⟨some 5, none, .mov (.t 38)⟩,
      ⟨some 6, none, .mov (.t 39)⟩])
    (.seq (.region [⟨some 42, none, .bin false .eql (.t 22) (.c (.int .i64 1))⟩,
      ⟨some 41, none, .mov (.t 42)⟩])
    (.cond (.t 41) (.region [⟨some 44, none, .mov (.t 0)⟩,
      ⟨some 45, none, .mov (.t 5)⟩,
      ⟨some 46, none, .call i_wire_read [.t 44, .t 45, .c (.int .i64 8)]⟩,
      ⟨some 43, none, .mov (.t 46)⟩,
      ⟨some 47, none, .ext 0 (.t 43)⟩,
      ⟨some 48, none, .ext 1 (.t 43)⟩,
      ⟨some 49, none, .ext 2 (.t 43)⟩,
      ⟨some 50, none, .fldA 2 1 false (.t 4)⟩,
      ⟨none, none, .store 1 (.t 50) (.t 47)⟩,
      ⟨some 5, none, .mov (.t 48)⟩,
      ⟨some 6, none, .mov (.t 49)⟩])
    (.seq (.region [⟨some 52, none, .bin false .eql (.t 22) (.c (.int .i64 5))⟩,
      ⟨some 51, none, .mov (.t 52)⟩])
    (.cond (.t 51) (.region [⟨some 54, none, .mov (.t 0)⟩,
      ⟨some 55, none, .mov (.t 5)⟩,
      ⟨some 56, none, .call i_wire_read [.t 54, .t 55, .c (.int .i64 4)]⟩,
      ⟨some 53, none, .mov (.t 56)⟩,
      ⟨some 57, none, .ext 0 (.t 53)⟩,
      ⟨some 58, none, .ext 1 (.t 53)⟩,
      ⟨some 59, none, .ext 2 (.t 53)⟩,
      ⟨some 60, none, .fldA 2 1 false (.t 4)⟩,
      ⟨none, none, .store 1 (.t 60) (.t 57)⟩,
      ⟨some 5, none, .mov (.t 58)⟩,
      ⟨some 6, none, .mov (.t 59)⟩])
    (.region [⟨some 24, none, .mov (.t 0)⟩,
      ⟨some 25, none, .mov (.t 5)⟩,
      ⟨some 26, none, .call i_wire_GetChunk [.t 24, .t 25]⟩,
      ⟨some 23, none, .mov (.t 26)⟩,
      ⟨some 27, none, .ext 0 (.t 23)⟩,
      ⟨some 28, none, .ext 1 (.t 23)⟩,
      ⟨some 29, none, .ext 2 (.t 23)⟩,
      ⟨some 30, none, .fldA 3 1 false (.t 4)⟩,
      ⟨none, none, .store 1 (.t 30) (.t 27)⟩,
      ⟨some 5, none, .mov (.t 28)⟩,
      ⟨some 6, none, .mov (.t 29)⟩])))))))))
    (.seq (.seq (.region [⟨some 61, none, .mov (.t 6)⟩,
      ⟨some 62, none, .bin false .neq (.t 61) (.c (.int .i64 0))⟩])
    (.cond (.t 62) (.seq (.region [⟨some 63, none, .build [.int .i64 0, .int .i64 0, .int .u64 0, .nil] []⟩,
      ⟨some 64, none, .mov (.t 6)⟩,
      ⟨none, none, .store 4 (.t 4) (.t 63)⟩,
      ⟨some 5, none, .mov (.c (.int .i64 0))⟩,
      ⟨some 6, none, .mov (.t 64)⟩])
    .ret)
    .skip))
    (.seq (.region [⟨some 65, none, .load 4 true (.t 4)⟩,
      ⟨some 66, none, .mov (.t 5)⟩,
      ⟨none, none, .store 4 (.t 4) (.t 65)⟩,
      ⟨some 5, none, .mov (.t 66)⟩,
      ⟨some 6, none, .mov (.c (.int .i64 0))⟩])
    .ret))))), [.cell 4 4 true, .tmp 5, .tmp 6]⟩
theorem T_wire_GetEntry : trFn Try.prog [(0, [1, 0, 0])] Try.f39 = some A_wire_GetEntry := by kernel_rfl
theorem L_wire_GetEntry : 2 ≤ Try.f39.ntmps := by decide

/-! cartouche/cartoucheref1.Same -/
def A_cartoucheref1_Same : AFn := ⟨(.seq (.region [⟨some 2, none, .boxI (.t 0)⟩,
      ⟨some 3, none, .boxI (.t 1)⟩,
      ⟨some 4, none, .mov (.c (.bool false))⟩])
    (.seq (.region [⟨some 5, none, .fldA 0 1 false (.t 2)⟩,
      ⟨some 6, none, .load 1 false (.t 5)⟩,
      ⟨some 7, none, .fldA 0 1 false (.t 3)⟩,
      ⟨some 8, none, .load 1 false (.t 7)⟩,
      ⟨some 9, none, .bin false .eql (.t 6) (.t 8)⟩,
      ⟨some 10, none, .mov (.t 9)⟩,
      ⟨some 11, some (10, true), .fldA 1 1 false (.t 2)⟩,
      ⟨some 12, some (10, true), .load 1 false (.t 11)⟩,
      ⟨some 13, some (10, true), .fldA 1 1 false (.t 3)⟩,
      ⟨some 14, some (10, true), .load 1 false (.t 13)⟩,
      ⟨some 15, some (10, true), .bin false .eql (.t 12) (.t 14)⟩,
      ⟨some 16, none, .pickb (.t 10) (.t 15) (.c (.bool false))⟩,
      ⟨some 17, none, .mov (.t 16)⟩,
      ⟨some 18, some (17, true), .fldA 2 1 false (.t 2)⟩,
      ⟨some 19, some (17, true), .load 1 false (.t 18)⟩,
      ⟨some 20, some (17, true), .fldA 2 1 false (.t 3)⟩,
      ⟨some 21, some (17, true), .load 1 false (.t 20)⟩,
      ⟨some 22, some (17, true), .bin false .eql (.t 19) (.t 21)⟩,
      ⟨some 23, none, .pickb (.t 17) (.t 22) (.c (.bool false))⟩,
      ⟨some 24, none, .mov (.t 23)⟩,
      ⟨some 25, some (24, true), .fldA 3 1 false (.t 2)⟩,
      ⟨some 26, some (24, true), .load 1 false (.t 25)⟩,
      ⟨some 27, some (24, true), .b2s (.t 26)⟩,
      ⟨some 28, some (24, true), .fldA 3 1 false (.t 3)⟩,
      ⟨some 29, some (24, true), .load 1 false (.t 28)⟩,
      ⟨some 30, some (24, true), .b2s (.t 29)⟩,
      ⟨some 31, some (24, true), .bin false .eql (.t 27) (.t 30)⟩,
      ⟨some 32, none, .pickb (.t 24) (.t 31) (.c (.bool false))⟩,
      ⟨some 4, none, .mov (.t 32)⟩])
    .ret)), [.tmp 4]⟩
theorem T_cartoucheref1_Same : trFn Try.prog [] Try.f40 = some A_cartoucheref1_Same := by kernel_rfl
theorem L_cartoucheref1_Same : 2 ≤ Try.f40.ntmps := by decide

/-! cartouche/cartouchelaw1.reads -/
def A_cartouchelaw1_reads : AFn := ⟨(.seq (.region [⟨some 10, none, .mov (.c (.bool false))⟩])
    (.seq (.region [⟨some 15, none, .mov (.t 0)⟩,
      ⟨some 16, none, .mov (.t 1)⟩,
      ⟨some 17, none, .call i_wire_GetVarint [.t 15, .t 16]⟩,
      ⟨some 14, none, .mov (.t 17)⟩,
      ⟨some 18, none, .ext 0 (.t 14)⟩,
      ⟨some 19, none, .ext 1 (.t 14)⟩,
      ⟨some 20, none, .ext 2 (.t 14)⟩,
      ⟨some 11, none, .mov (.t 18)⟩,
      ⟨some 12, none, .mov (.t 19)⟩,
      ⟨some 13, none, .mov (.t 20)⟩])
    (.seq (.region [⟨some 21, none, .mov (.t 11)⟩,
      ⟨some 22, none, .mov (.t 2)⟩,
      ⟨some 23, none, .bin false .eql (.t 21) (.t 22)⟩,
      ⟨some 24, none, .mov (.t 23)⟩,
      ⟨some 25, some (24, true), .mov (.t 12)⟩,
      ⟨some 26, some (24, true), .mov (.t 3)⟩,
      ⟨some 27, some (24, true), .bin false .eql (.t 25) (.t 26)⟩,
      ⟨some 28, none, .pickb (.t 24) (.t 27) (.c (.bool false))⟩,
      ⟨some 29, none, .mov (.t 28)⟩,
      ⟨some 30, some (29, true), .mov (.t 13)⟩,
      ⟨some 31, some (29, true), .mov (.t 4)⟩,
      ⟨some 32, some (29, true), .bin false .eql (.t 30) (.t 31)⟩,
      ⟨some 33, none, .pickb (.t 29) (.t 32) (.c (.bool false))⟩,
      ⟨some 10, none, .mov (.t 33)⟩])
    .ret))), [.tmp 10]⟩
theorem T_cartouchelaw1_reads : trFn Try.prog [] Try.f41 = some A_cartouchelaw1_reads := by kernel_rfl
theorem L_cartouchelaw1_reads : 5 ≤ Try.f41.ntmps := by decide

/-! cartouche/wire.Join -/
def A_wire_Join : AFn := ⟨(.seq (.region [⟨some 2, none, .mov (.c (.nil))⟩,
      ⟨some 3, none, .mov (.c (.int .i64 0))⟩])
    (.seq (.region [⟨some 4, none, .mov (.c (.nil))⟩])
    (.seq (.seq (.region [⟨some 9, none, .mov (.t 0)⟩,
      ⟨some 10, none, .len false (.t 9)⟩,
      ⟨some 11, none, .mov (.c (.int .i64 0))⟩])
    (.block 0 (.loop (.seq (.region [⟨some 12, none, .bin false .lss (.t 11) (.t 10)⟩])
    (.seq (.cond (.t 12) .skip
    (.exit 0))
    (.seq (.block 1 (.seq (.region [⟨some 13, none, .idxA 4 (.t 9) (.t 11)⟩,
      ⟨some 14, none, .load 4 true (.t 13)⟩,
      ⟨some 6, none, .alloc 0 [.int .i64 0, .int .i64 0, .int .u64 0, .nil]⟩,
      ⟨none, none, .store 4 (.t 6) (.t 14)⟩])
    (.seq (.region [⟨some 16, none, .load 4 true (.t 6)⟩,
      ⟨some 17, none, .call i_wire_PutEntry [.t 16]⟩,
      ⟨some 15, none, .mov (.t 17)⟩,
      ⟨some 18, none, .ext 0 (.t 15)⟩,
      ⟨some 19, none, .ext 1 (.t 15)⟩,
      ⟨some 7, none, .mov (.t 18)⟩,
      ⟨some 8, none, .mov (.t 19)⟩])
    (.seq (.seq (.region [⟨some 20, none, .mov (.t 8)⟩,
      ⟨some 21, none, .bin false .neq (.t 20) (.c (.int .i64 0))⟩])
    (.cond (.t 21) (.seq (.region [⟨some 22, none, .mov (.t 8)⟩,
      ⟨some 2, none, .mov (.c (.nil))⟩,
      ⟨some 3, none, .mov (.t 22)⟩])
    .ret)
    .skip))
    (.region [⟨some 23, none, .mov (.t 4)⟩,
      ⟨some 24, none, .mov (.t 7)⟩,
      ⟨some 25, none, .app 1 5 1 1 (.t 23) (.t 24)⟩,
      ⟨some 4, none, .mov (.t 25)⟩])))))
    (.region [⟨some 26, none, .bin false .add (.t 11) (.c (.int .i64 1))⟩,
      ⟨some 11, none, .mov (.t 26)⟩])))))))
    (.seq (.region [⟨some 27, none, .mov (.t 4)⟩,
      ⟨some 28, none, .len false (.t 27)⟩,
      ⟨some 29, none, .mks 2 5 1 1 (.int .u8 0) (.c (.int .i64 0)) (.t 28)⟩,
      ⟨some 30, none, .mov (.t 4)⟩,
      ⟨some 31, none, .app 2 5 1 1 (.t 29) (.t 30)⟩,
      ⟨some 2, none, .mov (.t 31)⟩,
      ⟨some 3, none, .mov (.c (.int .i64 0))⟩])
    .ret)))), [.tmp 2, .tmp 3]⟩
theorem T_wire_Join : trFn Try.prog [(4, [0, 0, 1, 0]), (8, [0, 0, 1, 0]), (10, [0, 0, 2, 0, 2, 0, 0])] Try.f42 = some A_wire_Join := by kernel_rfl
theorem L_wire_Join : 1 ≤ Try.f42.ntmps := by decide

/-! cartouche/cartoucheref1.PutEntry -/
def A_cartoucheref1_PutEntry : AFn := ⟨(.seq (.region [⟨some 1, none, .boxI (.t 0)⟩,
      ⟨some 2, none, .mov (.c (.nil))⟩,
      ⟨some 3, none, .mov (.c (.int .i64 0))⟩])
    (.seq (.region [⟨some 7, none, .fldA 0 1 false (.t 1)⟩,
      ⟨some 8, none, .load 1 false (.t 7)⟩,
      ⟨some 9, none, .fldA 1 1 false (.t 1)⟩,
      ⟨some 10, none, .load 1 false (.t 9)⟩,
      ⟨some 11, none, .call i_cartoucheref1_PutTag [.t 8, .t 10]⟩,
      ⟨some 6, none, .mov (.t 11)⟩,
      ⟨some 12, none, .ext 0 (.t 6)⟩,
      ⟨some 13, none, .ext 1 (.t 6)⟩,
      ⟨some 4, none, .mov (.t 12)⟩,
      ⟨some 5, none, .mov (.t 13)⟩])
    (.seq (.seq (.region [⟨some 14, none, .mov (.t 5)⟩,
      ⟨some 15, none, .bin false .neq (.t 14) (.c (.int .i64 0))⟩])
    (.cond (.t 15) (.seq (.region [⟨some 16, none, .mov (.t 5)⟩,
      ⟨some 2, none, .mov (.c (.nil))⟩,
      ⟨some 3, none, .mov (.t 16)⟩])
    .ret)
    .skip))
    (.seq (.seq (.region [⟨some 17, none, .load 4 true (.t 1)⟩,
      ⟨some 18, none, .call i_cartoucheref1_Fine [.t 17]⟩,
      ⟨some 19, none, .un .not (.t 18)⟩])
    (.cond (.t 19) (.seq (.region [⟨some 2, none, .mov (.c (.nil))⟩,
      ⟨some 3, none, .mov (.c (.int .i64 7))⟩])
    .ret)
    .skip))
    (.seq (.seq (.region [⟨some 20, none, .fldA 1 1 false (.t 1)⟩,
      ⟨some 21, none, .load 1 false (.t 20)⟩])
    (.block 0 (.seq (.region [⟨some 23, none, .bin false .eql (.t 21) (.c (.int .i64 0))⟩,
      ⟨some 22, none, .mov (.t 23)⟩])
    (.cond (.t 22) (.seq (.region [⟨some 24, none, .mov (.t 4)⟩,
      ⟨some 25, none, .fldA 2 1 false (.t 1)⟩,
      ⟨some 26, none, .load 1 false (.t 25)⟩,
      ⟨some 27, none, .call i_cartoucheref1_PutVarint [.t 26]⟩,
      ⟨some 28, none, .app 0 5 1 1 (.t 24) (.t 27)⟩,
      ⟨some 2, none, .mov (.t 28)⟩,
      ⟨some 3, none, .mov (.c (.int .i64 0))⟩])
    .ret)
    (.seq (.region [⟨some 30, none, .bin false .eql (.t 21) (.c (.int .i64 1))⟩,
      ⟨some 29, none, .mov (.t 30)⟩])
    (.cond (.t 29) (.seq (.region [⟨some 31, none, .mov (.t 4)⟩,
      ⟨some 32, none, .fldA 2 1 false (.t 1)⟩,
      ⟨some 33, none, .load 1 false (.t 32)⟩,
      ⟨some 34, none, .call i_cartoucheref1_PutWord [.t 33, .c (.int .i64 8)]⟩,
      ⟨some 35, none, .app 0 5 1 1 (.t 31) (.t 34)⟩,
      ⟨some 2, none, .mov (.t 35)⟩,
      ⟨some 3, none, .mov (.c (.int .i64 0))⟩])
    .ret)
    (.seq (.region [⟨some 37, none, .bin false .eql (.t 21) (.c (.int .i64 5))⟩,
      ⟨some 36, none, .mov (.t 37)⟩])
    (.cond (.t 36) (.seq (.region [⟨some 38, none, .mov (.t 4)⟩,
      ⟨some 39, none, .fldA 2 1 false (.t 1)⟩,
      ⟨some 40, none, .load 1 false (.t 39)⟩,
      ⟨some 41, none, .call i_cartoucheref1_PutWord [.t 40, .c (.int .i64 4)]⟩,
      ⟨some 42, none, .app 0 5 1 1 (.t 38) (.t 41)⟩,
      ⟨some 2, none, .mov (.t 42)⟩,
      ⟨some 3, none, .mov (.c (.int .i64 0))⟩])
    .ret)
    .skip))))))))
    (.seq (.region [⟨some 43, none, .mov (.t 4)⟩,
      ⟨some 44, none, .fldA 3 1 false (.t 1)⟩,
      ⟨some 45, none, .load 1 false (.t 44)⟩,
      ⟨some 46, none, .call i_cartoucheref1_PutChunk [.t 45]⟩,
      ⟨some 47, none, .app 0 5 1 1 (.t 43) (.t 46)⟩,
      ⟨some 2, none, .mov (.t 47)⟩,
      ⟨some 3, none, .mov (.c (.int .i64 0))⟩])
    .ret)))))), [.tmp 2, .tmp 3]⟩
theorem T_cartoucheref1_PutEntry : trFn Try.prog [] Try.f43 = some A_cartoucheref1_PutEntry := by kernel_rfl
theorem L_cartoucheref1_PutEntry : 1 ≤ Try.f43.ntmps := by decide

/-! cartouche/cartoucheref1.Split -/
def A_cartoucheref1_Split : AFn := ⟨(.seq (.region [⟨some 2, none, .mov (.c (.nil))⟩,
      ⟨some 3, none, .mov (.c (.int .i64 0))⟩])
    (.seq (.region [⟨some 4, none, .mov (.c (.nil))⟩])
    (.seq (.seq (.region [⟨some 5, none, .mov (.c (.int .i64 0))⟩])
    (.block 0 (.loop (.seq (.seq (.region [⟨some 9, none, .mov (.t 5)⟩,
      ⟨some 10, none, .mov (.t 0)⟩,
      ⟨some 11, none, .len false (.t 10)⟩,
      ⟨some 12, none, .bin false .lss (.t 9) (.t 11)⟩])
    (.cond (.t 12) .skip
    (.exit 0)))
    (.block 1 (.seq (.region [⟨some 14, none, .mov (.t 0)⟩,
      ⟨some 15, none, .mov (.t 5)⟩,
      ⟨some 16, none, .call i_cartoucheref1_GetEntry [.t 14, .t 15]⟩,
      ⟨some 13, none, .mov (.t 16)⟩,
      ⟨some 17, none, .ext 0 (.t 13)⟩,
      ⟨some 18, none, .ext 1 (.t 13)⟩,
      ⟨some 19, none, .ext 2 (.t 13)⟩,
      ⟨some 6, none, .alloc 0 [.int .i64 0, .int .i64 0, .int .u64 0, .nil]⟩,
      ⟨none, none, .store 4 (.t 6) (.t 17)⟩,
      ⟨some 7, none, .mov (.t 18)⟩,
      ⟨some 8, none, .mov (.t 19)⟩])
    (.seq (.seq (.region [⟨some 20, none, .mov (.t 8)⟩,
      ⟨some 21, none, .bin false .neq (.t 20) (.c (.int .i64 0))⟩])
    (.cond (.t 21) (.seq (.region [⟨some 22, none, .mov (.t 8)⟩,
      ⟨some 2, none, .mov (.c (.nil))⟩,
      ⟨some 3, none, .mov (.t 22)⟩])
    .ret)
    .skip))
    (.seq (.region [⟨some 23, none, .mov (.t 4)⟩,
      ⟨some 24, none, .load 4 true (.t 6)⟩,
      ⟨some 25, none, .bslice 4 [.t 24]⟩,
      ⟨some 26, none, .app 1 60 4 48 (.t 23) (.t 25)⟩,
      ⟨some 4, none, .mov (.t 26)⟩])
    (.region [⟨some 27, none, .mov (.t 7)⟩,
      ⟨some 5, none, .mov (.t 27)⟩])))))))))
    (.seq (.region [⟨some 28, none, .mov (.t 4)⟩,
      ⟨some 2, none, .mov (.t 28)⟩,
      ⟨some 3, none, .mov (.c (.int .i64 0))⟩])
    .ret)))), [.tmp 2, .tmp 3]⟩
theorem T_cartoucheref1_Split : trFn Try.prog [(4, [0, 0, 0, 0, 0, 0, 0, 1, 0, 0, 0]), (7, [0, 0, 0, 1, 0])] Try.f44 = some A_cartoucheref1_Split := by kernel_rfl
theorem L_cartoucheref1_Split : 1 ≤ Try.f44.ntmps := by decide

/-! cartouche/cartoucheref1.GetEntry -/
def A_cartoucheref1_GetEntry : AFn := ⟨(.seq (.region [⟨some 4, none, .alloc 0 [.int .i64 0, .int .i64 0, .int .u64 0, .nil]⟩,
      ⟨some 5, none, .mov (.c (.int .i64 0))⟩,
      ⟨some 6, none, .mov (.c (.int .i64 0))⟩])
    (.seq (.region [⟨some 12, none, .mov (.t 0)⟩,
      ⟨some 13, none, .mov (.t 1)⟩,
      ⟨some 14, none, .call i_cartoucheref1_GetTag [.t 12, .t 13]⟩,
      ⟨some 11, none, .mov (.t 14)⟩,
      ⟨some 15, none, .ext 0 (.t 11)⟩,
      ⟨some 16, none, .ext 1 (.t 11)⟩,
      ⟨some 17, none, .ext 2 (.t 11)⟩,
      ⟨some 18, none, .ext 3 (.t 11)⟩,
      ⟨some 7, none, .mov (.t 15)⟩,
      ⟨some 8, none, .mov (.t 16)⟩,
      ⟨some 9, none, .mov (.t 17)⟩,
      ⟨some 10, none, .mov (.t 18)⟩])
    (.seq (.seq (.region [⟨some 19, none, .mov (.t 10)⟩,
      ⟨some 20, none, .bin false .neq (.t 19) (.c (.int .i64 0))⟩])
    (.cond (.t 20) (.seq (.region [⟨some 21, none, .build [.int .i64 0, .int .i64 0, .int .u64 0, .nil] []⟩,
      ⟨some 22, none, .mov (.t 10)⟩,
      ⟨none, none, .store 4 (.t 4) (.t 21)⟩,
      ⟨some 5, none, .mov (.c (.int .i64 0))⟩,
      ⟨some 6, none, .mov (.t 22)⟩])
    .ret)
    .skip))
    (.seq (.region [⟨some 23, none, .mov (.t 0)⟩,
      ⟨some 24, none, .mov (.t 9)⟩,
      ⟨some 25, none, .mov (.t 7)⟩,
      ⟨some 26, none, .mov (.t 8)⟩,
      ⟨some 27, none, .call i_cartoucheref1_Rest [.t 23, .t 24, .t 25, .t 26]⟩,
      ⟨some 28, none, .ext 0 (.t 27)⟩,
      ⟨some 29, none, .ext 1 (.t 27)⟩,
      ⟨some 30, none, .ext 2 (.t 27)⟩,
      ⟨none, none, .store 4 (.t 4) (.t 28)⟩,
      ⟨some 5, none, .mov (.t 29)⟩,
      ⟨some 6, none, .mov (.t 30)⟩])
    .ret)))), [.cell 4 4 true, .tmp 5, .tmp 6]⟩
theorem T_cartoucheref1_GetEntry : trFn Try.prog [(0, [1, 0, 0])] Try.f45 = some A_cartoucheref1_GetEntry := by kernel_rfl
theorem L_cartoucheref1_GetEntry : 2 ≤ Try.f45.ntmps := by decide

/-! cartouche/wire.place -/
def A_wire_place : AFn := ⟨(.seq (.region [⟨some 4, none, .mov (.c (.bool false))⟩])
    (.seq (.region [⟨some 5, none, .mov (.t 1)⟩,
      ⟨some 6, none, .bin false .geq (.t 5) (.c (.int .i64 0))⟩,
      ⟨some 7, none, .mov (.t 6)⟩,
      ⟨some 8, some (7, true), .mov (.t 1)⟩,
      ⟨some 9, some (7, true), .mov (.t 0)⟩,
      ⟨some 10, some (7, true), .len false (.t 9)⟩,
      ⟨some 11, some (7, true), .bin false .leq (.t 8) (.t 10)⟩,
      ⟨some 12, none, .pickb (.t 7) (.t 11) (.c (.bool false))⟩,
      ⟨some 4, none, .mov (.t 12)⟩])
    .ret)), [.tmp 4]⟩
theorem T_wire_place : trFn Try.prog [] Try.f46 = some A_wire_place := by kernel_rfl
theorem L_wire_place : 2 ≤ Try.f46.ntmps := by decide

/-! cartouche/wire.varint -/
def A_wire_varint : AFn := ⟨(.seq (.region [⟨some 4, none, .mov (.c (.nil))⟩])
    (.seq (.block 0 (.loop (.seq (.seq (.region [⟨some 5, none, .mov (.t 1)⟩,
      ⟨some 6, none, .bin false .geq (.t 5) (.c (.int .u64 128))⟩])
    (.cond (.t 6) .skip
    (.exit 0)))
    (.block 1 (.seq (.region [⟨some 7, none, .mov (.t 0)⟩,
      ⟨some 8, none, .mov (.t 1)⟩,
      ⟨some 9, none, .conv .u8 (.t 8)⟩,
      ⟨some 10, none, .bin false .or (.t 9) (.c (.int .u8 128))⟩,
      ⟨some 11, none, .bslice 1 [.t 10]⟩,
      ⟨some 12, none, .app 0 5 1 1 (.t 7) (.t 11)⟩,
      ⟨some 0, none, .mov (.t 12)⟩])
    (.region [⟨some 13, none, .mov (.t 1)⟩,
      ⟨some 14, none, .bin false .shr (.t 13) (.c (.int .u64 7))⟩,
      ⟨some 1, none, .mov (.t 14)⟩]))))))
    (.seq (.region [⟨some 15, none, .mov (.t 0)⟩,
      ⟨some 16, none, .mov (.t 1)⟩,
      ⟨some 17, none, .conv .u8 (.t 16)⟩,
      ⟨some 18, none, .bslice 1 [.t 17]⟩,
      ⟨some 19, none, .app 0 5 1 1 (.t 15) (.t 18)⟩,
      ⟨some 4, none, .mov (.t 19)⟩])
    .ret))), [.tmp 4]⟩
theorem T_wire_varint : trFn Try.prog [] Try.f47 = some A_wire_varint := by kernel_rfl
theorem L_wire_varint : 2 ≤ Try.f47.ntmps := by decide

/-! math/bits.Len64 -/
def A_bits_Len64 : AFn := ⟨(.seq (.region [⟨some 2, none, .mov (.c (.int .i64 0))⟩])
    (.seq (.seq (.region [⟨some 3, none, .mov (.t 0)⟩,
      ⟨some 4, none, .bin false .geq (.t 3) (.c (.int .u64 4294967296))⟩])
    (.cond (.t 4) (.seq (.region [⟨some 5, none, .mov (.t 0)⟩,
      ⟨some 6, none, .bin false .shr (.t 5) (.c (.int .u64 32))⟩,
      ⟨some 0, none, .mov (.t 6)⟩])
    (.region [⟨some 2, none, .mov (.c (.int .i64 32))⟩]))
    .skip))
    (.seq (.seq (.region [⟨some 7, none, .mov (.t 0)⟩,
      ⟨some 8, none, .bin false .geq (.t 7) (.c (.int .u64 65536))⟩])
    (.cond (.t 8) (.seq (.region [⟨some 9, none, .mov (.t 0)⟩,
      ⟨some 10, none, .bin false .shr (.t 9) (.c (.int .u64 16))⟩,
      ⟨some 0, none, .mov (.t 10)⟩])
    (.region [⟨some 11, none, .mov (.t 2)⟩,
      ⟨some 12, none, .bin false .add (.t 11) (.c (.int .i64 16))⟩,
      ⟨some 2, none, .mov (.t 12)⟩]))
    .skip))
    (.seq (.seq (.region [⟨some 13, none, .mov (.t 0)⟩,
      ⟨some 14, none, .bin false .geq (.t 13) (.c (.int .u64 256))⟩])
    (.cond (.t 14) (.seq (.region [⟨some 15, none, .mov (.t 0)⟩,
      ⟨some 16, none, .bin false .shr (.t 15) (.c (.int .u64 8))⟩,
      ⟨some 0, none, .mov (.t 16)⟩])
    (.region [⟨some 17, none, .mov (.t 2)⟩,
      ⟨some 18, none, .bin false .add (.t 17) (.c (.int .i64 8))⟩,
      ⟨some 2, none, .mov (.t 18)⟩]))
    .skip))
    (.seq (.region [⟨some 19, none, .mov (.t 2)⟩,
      ⟨some 20, none, .mov (.t 0)⟩,
      ⟨some 21, none, .conv .u8 (.t 20)⟩,
      ⟨some 22, none, .idxS (.c (.str ⟨#[0, 1, 2, 2, 3, 3, 3, 3, 4, 4, 4, 4, 4, 4, 4, 4, 5, 5, 5, 5, 5, 5, 5, 5, 5, 5, 5, 5, 5, 5, 5, 5, 6, 6, 6, 6, 6, 6, 6, 6, 6, 6, 6, 6, 6, 6, 6, 6, 6, 6, 6, 6, 6, 6, 6, 6, 6, 6, 6, 6, 6, 6, 6, 6, 7, 7, 7, 7, 7, 7, 7, 7, 7, 7, 7, 7, 7, 7, 7, 7, 7, 7, 7, 7, 7, 7, 7, 7, 7, 7, 7, 7, 7, 7, 7, 7, 7, 7, 7, 7, 7, 7, 7, 7, 7, 7, 7, 7, 7, 7, 7, 7, 7, 7, 7, 7, 7, 7, 7, 7, 7, 7, 7, 7, 7, 7, 7, 7, 8, 8, 8, 8, 8, 8, 8, 8, 8, 8, 8, 8, 8, 8, 8, 8, 8, 8, 8, 8, 8, 8, 8, 8, 8, 8, 8, 8, 8, 8, 8, 8, 8, 8, 8, 8, 8, 8, 8, 8, 8, 8, 8, 8, 8, 8, 8, 8, 8, 8, 8, 8, 8, 8, 8, 8, 8, 8, 8, 8, 8, 8, 8, 8, 8, 8, 8, 8, 8, 8, 8, 8, 8, 8, 8, 8, 8, 8, 8, 8, 8, 8, 8, 8, 8, 8, 8, 8, 8, 8, 8, 8, 8, 8, 8, 8, 8, 8, 8, 8, 8, 8, 8, 8, 8, 8, 8, 8, 8, 8, 8, 8, 8, 8, 8, 8, 8, 8, 8, 8, 8, 8, 8, 8, 8, 8, 8, 8]⟩)) (.t 21)⟩,
      ⟨some 23, none, .conv .i64 (.t 22)⟩,
      ⟨some 24, none, .bin false .add (.t 19) (.t 23)⟩,
      ⟨some 2, none, .mov (.t 24)⟩])
    .ret))))), [.tmp 2]⟩
theorem T_bits_Len64 : trFn Try.prog [] Try.f48 = some A_bits_Len64 := by kernel_rfl
theorem L_bits_Len64 : 1 ≤ Try.f48.ntmps := by decide

/-! cartouche/wire.isKind -/
def A_wire_isKind : AFn := ⟨(.seq (.region [⟨some 2, none, .mov (.c (.bool false))⟩])
    (.seq (.seq (.region [⟨some 3, none, .mov (.t 0)⟩])
    (.block 0 (.seq (.seq (.region [⟨some 5, none, .bin false .eql (.t 3) (.c (.int .i64 0))⟩,
      ⟨some 4, none, .mov (.t 5)⟩])
    (.cond (.t 4) .skip
    (.seq (.region [⟨some 6, none, .bin false .eql (.t 3) (.c (.int .i64 1))⟩,
      ⟨some 4, none, .mov (.t 6)⟩])
    (.cond (.t 4) .skip
    (.seq (.region [⟨some 7, none, .bin false .eql (.t 3) (.c (.int .i64 2))⟩,
      ⟨some 4, none, .mov (.t 7)⟩])
    (.cond (.t 4) .skip
    (.region [⟨some 8, none, .bin false .eql (.t 3) (.c (.int .i64 5))⟩,
      ⟨some 4, none, .mov (.t 8)⟩])))))))
    (.cond (.t 4) (.seq (.region [⟨some 2, none, .mov (.c (.bool true))⟩])
    .ret)
    .skip))))
    (.seq (.region [⟨some 2, none, .mov (.c (.bool false))⟩])
    .ret))), [.tmp 2]⟩
theorem T_wire_isKind : trFn Try.prog [] Try.f49 = some A_wire_isKind := by kernel_rfl
theorem L_wire_isKind : 1 ≤ Try.f49.ntmps := by decide

/-! cartouche/cartoucheref1.IsKind -/
def A_cartoucheref1_IsKind : AFn := ⟨(.seq (.region [⟨some 2, none, .mov (.c (.bool false))⟩])
    (.seq (.region [⟨some 3, none, .mov (.t 0)⟩,
      ⟨some 4, none, .bin false .eql (.t 3) (.c (.int .i64 0))⟩,
      ⟨some 5, none, .mov (.t 4)⟩,
      ⟨some 6, some (5, false), .mov (.t 0)⟩,
      ⟨some 7, some (5, false), .bin false .eql (.t 6) (.c (.int .i64 1))⟩,
      ⟨some 8, none, .pickb (.t 5) (.c (.bool true)) (.t 7)⟩,
      ⟨some 9, none, .mov (.t 8)⟩,
      ⟨some 10, some (9, false), .mov (.t 0)⟩,
      ⟨some 11, some (9, false), .bin false .eql (.t 10) (.c (.int .i64 2))⟩,
      ⟨some 12, none, .pickb (.t 9) (.c (.bool true)) (.t 11)⟩,
      ⟨some 13, none, .mov (.t 12)⟩,
      ⟨some 14, some (13, false), .mov (.t 0)⟩,
      ⟨some 15, some (13, false), .bin false .eql (.t 14) (.c (.int .i64 5))⟩,
      ⟨some 16, none, .pickb (.t 13) (.c (.bool true)) (.t 15)⟩,
      ⟨some 2, none, .mov (.t 16)⟩])
    .ret)), [.tmp 2]⟩
theorem T_cartoucheref1_IsKind : trFn Try.prog [] Try.f50 = some A_cartoucheref1_IsKind := by kernel_rfl
theorem L_cartoucheref1_IsKind : 1 ≤ Try.f50.ntmps := by decide

/-! cartouche/wire.read -/
def A_wire_read : AFn := ⟨(.seq (.region [⟨some 6, none, .mov (.c (.int .u64 0))⟩,
      ⟨some 7, none, .mov (.c (.int .i64 0))⟩,
      ⟨some 8, none, .mov (.c (.int .i64 0))⟩])
    (.seq (.block 0 (.seq (.region [⟨some 11, none, .mov (.t 0)⟩,
      ⟨some 12, none, .mov (.t 1)⟩,
      ⟨some 13, none, .call i_wire_place [.t 11, .t 12]⟩,
      ⟨some 14, none, .un .not (.t 13)⟩,
      ⟨some 10, none, .mov (.t 14)⟩])
    (.cond (.t 10) (.seq (.region [⟨some 6, none, .mov (.c (.int .u64 0))⟩,
      ⟨some 7, none, .mov (.c (.int .i64 0))⟩,
      ⟨some 8, none, .mov (.c (.int .i64 18))⟩])
    .ret)
    (.seq (.region [⟨some 16, none, .mov (.t 0)⟩,
      ⟨some 17, none, .len false (.t 16)⟩,
      ⟨some 18, none, .mov (.t 1)⟩,
      ⟨some 19, none, .bin false .sub (.t 17) (.t 18)⟩,
      ⟨some 20, none, .mov (.t 2)⟩,
      ⟨some 21, none, .bin false .lss (.t 19) (.t 20)⟩,
      ⟨some 15, none, .mov (.t 21)⟩])
    (.cond (.t 15) (.seq (.region [⟨some 6, none, .mov (.c (.int .u64 0))⟩,
      ⟨some 7, none, .mov (.c (.int .i64 0))⟩,
      ⟨some 8, none, .mov (.c (.int .i64 3))⟩])
    .ret)
    .skip)))))
    (.seq (.seq (.region [⟨some 22, none, .mov (.t 2)⟩,
      ⟨some 23, none, .mov (.c (.int .i64 0))⟩])
    (.block 1 (.loop (.seq (.region [⟨some 24, none, .bin false .lss (.t 23) (.t 22)⟩])
    (.seq (.cond (.t 24) .skip
    (.exit 1))
    (.seq (.block 2 (.seq (.region [⟨some 25, none, .mov (.t 23)⟩,
      ⟨some 9, none, .mov (.t 25)⟩])
    (.region [⟨some 26, none, .mov (.t 6)⟩,
      ⟨some 27, none, .mov (.t 0)⟩,
      ⟨some 28, none, .mov (.t 1)⟩,
      ⟨some 29, none, .mov (.t 9)⟩,
      ⟨some 30, none, .bin false .add (.t 28) (.t 29)⟩,
      ⟨some 31, none, .idxA 1 (.t 27) (.t 30)⟩,
      ⟨some 32, none, .load 1 false (.t 31)⟩,
      ⟨some 33, none, .conv .u64 (.t 32)⟩,
      ⟨some 34, none, .mov (.t 9)⟩,
      ⟨some 35, none, .bin false .mul (.c (.int .i64 8)) (.t 34)⟩,
      ⟨some 36, none, .bin false .shl (.t 33) (.t 35)⟩,
      ⟨some 37, none, .bin false .or (.t 26) (.t 36)⟩,
      ⟨some 6, none, .mov (.t 37)⟩])))
    (.region [⟨some 38, none, .bin false .add (.t 23) (.c (.int .i64 1))⟩,
      ⟨some 23, none, .mov (.t 38)⟩])))))))
    (.seq (.region [⟨some 39, none, .mov (.t 6)⟩,
      ⟨some 40, none, .mov (.t 1)⟩,
      ⟨some 41, none, .mov (.t 2)⟩,
      ⟨some 42, none, .bin false .add (.t 40) (.t 41)⟩,
      ⟨some 6, none, .mov (.t 39)⟩,
      ⟨some 7, none, .mov (.t 42)⟩,
      ⟨some 8, none, .mov (.c (.int .i64 0))⟩])
    .ret)))), [.tmp 6, .tmp 7, .tmp 8]⟩
theorem T_wire_read : trFn Try.prog [] Try.f51 = some A_wire_read := by kernel_rfl
theorem L_wire_read : 3 ≤ Try.f51.ntmps := by decide

/-! cartouche/wire.Span -/
def A_wire_Span : AFn := ⟨(.seq (.region [⟨some 4, none, .mov (.c (.int .i64 0))⟩,
      ⟨some 5, none, .mov (.c (.int .i64 0))⟩,
      ⟨some 6, none, .mov (.c (.int .i64 0))⟩])
    (.seq (.region [⟨some 9, none, .mov (.t 0)⟩,
      ⟨some 10, none, .mov (.t 1)⟩,
      ⟨some 11, none, .call i_wire_GetVarint [.t 9, .t 10]⟩,
      ⟨some 8, none, .mov (.t 11)⟩,
      ⟨some 12, none, .ext 0 (.t 8)⟩,
      ⟨some 13, none, .ext 1 (.t 8)⟩,
      ⟨some 14, none, .ext 2 (.t 8)⟩,
      ⟨some 7, none, .mov (.t 12)⟩,
      ⟨some 4, none, .mov (.t 13)⟩,
      ⟨some 6, none, .mov (.t 14)⟩])
    (.seq (.block 0 (.seq (.region [⟨some 16, none, .mov (.t 6)⟩,
      ⟨some 17, none, .bin false .neq (.t 16) (.c (.int .i64 0))⟩,
      ⟨some 15, none, .mov (.t 17)⟩])
    (.cond (.t 15) (.seq (.region [⟨some 18, none, .mov (.t 6)⟩,
      ⟨some 4, none, .mov (.c (.int .i64 0))⟩,
      ⟨some 5, none, .mov (.c (.int .i64 0))⟩,
      ⟨some 6, none, .mov (.t 18)⟩])
    .ret)
    (.seq (.region [⟨some 20, none, .mov (.t 7)⟩,
      ⟨some 21, none, .mov (.t 0)⟩,
      ⟨some 22, none, .len false (.t 21)⟩,
      ⟨some 23, none, .mov (.t 4)⟩,
      ⟨some 24, none, .bin false .sub (.t 22) (.t 23)⟩,
      ⟨some 25, none, .conv .u64 (.t 24)⟩,
      ⟨some 26, none, .bin false .gtr (.t 20) (.t 25)⟩,
      ⟨some 19, none, .mov (.t 26)⟩])
    (.cond (.t 19) (.seq (.region [⟨some 4, none, .mov (.c (.int .i64 0))⟩,
      ⟨some 5, none, .mov (.c (.int .i64 0))⟩,
      ⟨some 6, none, .mov (.c (.int .i64 3))⟩])
    .ret)
    .skip)))))
    (.seq (.region [⟨some 27, none, .mov (.t 4)⟩,
      ⟨some 28, none, .mov (.t 4)⟩,
      ⟨some 29, none, .mov (.t 7)⟩,
      ⟨some 30, none, .conv .i64 (.t 29)⟩,
      ⟨some 31, none, .bin false .add (.t 28) (.t 30)⟩,
      ⟨some 4, none, .mov (.t 27)⟩,
      ⟨some 5, none, .mov (.t 31)⟩,
      ⟨some 6, none, .mov (.c (.int .i64 0))⟩])
    .ret)))), [.tmp 4, .tmp 5, .tmp 6]⟩
theorem T_wire_Span : trFn Try.prog [] Try.f52 = some A_wire_Span := by kernel_rfl
theorem L_wire_Span : 2 ≤ Try.f52.ntmps := by decide

/-! cartouche/wire.word -/
def A_wire_word : AFn := ⟨(.seq (.region [⟨some 4, none, .mov (.c (.nil))⟩])
    (.seq (.region [⟨some 7, none, .mov (.t 1)⟩,
      ⟨some 8, none, .mks 0 5 1 1 (.int .u8 0) (.c (.int .i64 0)) (.t 7)⟩,
      ⟨some 5, none, .mov (.t 8)⟩])
    (.seq (.seq (.region [⟨some 9, none, .mov (.t 1)⟩,
      ⟨some 10, none, .mov (.c (.int .i64 0))⟩])
    (.block 0 (.loop (.seq (.region [⟨some 11, none, .bin false .lss (.t 10) (.t 9)⟩])
    (.seq (.cond (.t 11) .skip
    (.exit 0))
    (.seq (.block 1 (.seq (.region [⟨some 12, none, .mov (.t 10)⟩,
      ⟨some 6, none, .mov (.t 12)⟩])
    (.region [⟨some 13, none, .mov (.t 5)⟩,
      ⟨some 14, none, .mov (.t 0)⟩,
      ⟨some 15, none, .mov (.t 6)⟩,
      ⟨some 16, none, .bin false .mul (.c (.int .i64 8)) (.t 15)⟩,
      ⟨some 17, none, .bin false .shr (.t 14) (.t 16)⟩,
      ⟨some 18, none, .conv .u8 (.t 17)⟩,
      ⟨some 19, none, .bslice 1 [.t 18]⟩,
      ⟨some 20, none, .app 1 5 1 1 (.t 13) (.t 19)⟩,
      ⟨some 5, none, .mov (.t 20)⟩])))
    (.region [⟨some 21, none, .bin false .add (.t 10) (.c (.int .i64 1))⟩,
      ⟨some 10, none, .mov (.t 21)⟩])))))))
    (.seq (.region [⟨some 22, none, .mov (.t 5)⟩,
      ⟨some 4, none, .mov (.t 22)⟩])
    .ret)))), [.tmp 4]⟩
theorem T_wire_word : trFn Try.prog [(5, [0, 0, 0, 0, 0, 0, 0, 1, 0])] Try.f53 = some A_wire_word := by kernel_rfl
theorem L_wire_word : 2 ≤ Try.f53.ntmps := by decide

/-! cartouche/cartoucheref1.Fine -/
def A_cartoucheref1_Fine : AFn := ⟨(.seq (.region [⟨some 1, none, .boxI (.t 0)⟩,
      ⟨some 2, none, .mov (.c (.bool false))⟩])
    (.seq (.seq (.region [⟨some 3, none, .fldA 1 1 false (.t 1)⟩,
      ⟨some 4, none, .load 1 false (.t 3)⟩,
      ⟨some 5, none, .bin false .eql (.t 4) (.c (.int .i64 2))⟩])
    (.cond (.t 5) (.seq (.region [⟨some 6, none, .fldA 2 1 false (.t 1)⟩,
      ⟨some 7, none, .load 1 false (.t 6)⟩,
      ⟨some 8, none, .bin false .eql (.t 7) (.c (.int .u64 0))⟩,
      ⟨some 2, none, .mov (.t 8)⟩])
    .ret)
    .skip))
    (.seq (.region [⟨some 9, none, .fldA 3 1 false (.t 1)⟩,
      ⟨some 10, none, .load 1 false (.t 9)⟩,
      ⟨some 11, none, .len false (.t 10)⟩,
      ⟨some 12, none, .bin false .eql (.t 11) (.c (.int .i64 0))⟩,
      ⟨some 13, none, .mov (.t 12)⟩,
      ⟨some 14, some (13, true), .fldA 1 1 false (.t 1)⟩,
      ⟨some 15, some (13, true), .load 1 false (.t 14)⟩,
      ⟨some 16, some (13, true), .bin false .neq (.t 15) (.c (.int .i64 5))⟩,
      ⟨some 17, some (13, true), .mov (.t 16)⟩,
      ⟨some 18, some (17, false), .fldA 2 1 false (.t 1)⟩,
      ⟨some 19, some (17, false), .load 1 false (.t 18)⟩,
      ⟨some 20, some (17, false), .bin false .lss (.t 19) (.c (.int .u64 4294967296))⟩,
      ⟨some 21, some (13, true), .pickb (.t 17) (.c (.bool true)) (.t 20)⟩,
      ⟨some 22, none, .pickb (.t 13) (.t 21) (.c (.bool false))⟩,
      ⟨some 2, none, .mov (.t 22)⟩])
    .ret))), [.tmp 2]⟩
theorem T_cartoucheref1_Fine : trFn Try.prog [] Try.f54 = some A_cartoucheref1_Fine := by kernel_rfl
theorem L_cartoucheref1_Fine : 1 ≤ Try.f54.ntmps := by decide

/-! cartouche/cartoucheref1.Rest -/
def A_cartoucheref1_Rest : AFn := ⟨(.seq (.region [⟨some 8, none, .alloc 0 [.int .i64 0, .int .i64 0, .int .u64 0, .nil]⟩,
      ⟨some 9, none, .mov (.c (.int .i64 0))⟩,
      ⟨some 10, none, .mov (.c (.int .i64 0))⟩])
    (.seq (.region [⟨some 14, none, .mov (.t 2)⟩,
      ⟨some 15, none, .mov (.t 3)⟩,
      ⟨some 16, none, .build [.int .i64 0, .int .i64 0, .int .u64 0, .nil] [(0, 1, .t 14), (1, 1, .t 15)]⟩,
      ⟨some 11, none, .alloc 1 [.int .i64 0, .int .i64 0, .int .u64 0, .nil]⟩,
      ⟨none, none, .store 4 (.t 11) (.t 16)⟩])
    (.seq (.region [⟨some 12, none, .mov (.c (.int .i64 0))⟩,
      ⟨some 13, none, .mov (.c (.int .i64 0))⟩])
    (.seq (.seq (.region [⟨some 17, none, .mov (.t 3)⟩])
    (.block 0 (.seq (.region [⟨some 27, none, .bin false .eql (.t 17) (.c (.int .i64 0))⟩,
      ⟨some 26, none, .mov (.t 27)⟩])
    (.cond (.t 26) (.region [⟨some 29, none, .mov (.t 0)⟩,
      ⟨some 30, none, .mov (.t 1)⟩,
      ⟨some 31, none, .call i_cartoucheref1_GetVarint [.t 29, .t 30]⟩,
      ⟨some 28, none, .mov (.t 31)⟩,
      ⟨some 32, none, .ext 0 (.t 28)⟩,
      ⟨some 33, none, .ext 1 (.t 28)⟩,
      ⟨some 34, none, .ext 2 (.t 28)⟩,
      ⟨some 35, none, .fldA 2 1 false (.t 11)⟩,
      ⟨none, none, .store 1 (.t 35) (.t 32)⟩,
      ⟨some 12, none, .mov (.t 33)⟩,
      ⟨some 13, none, .mov (.t 34)⟩])
    (.seq (.region [⟨some 37, none, .bin false .eql (.t 17) (.c (.int .i64 1))⟩,
      ⟨some 36, none, .mov (.t 37)⟩])
    (.cond (.t 36) (.region [⟨some 39, none, .mov (.t 0)⟩,
      ⟨some 40, none, .mov (.t 1)⟩,
      ⟨some 41, none, .call i_cartoucheref1_Word [.t 39, .t 40, .c (.int .i64 8)]⟩,
      ⟨some 38, none, .mov (.t 41)⟩,
      ⟨some 42, none, .ext 0 (.t 38)⟩,
      ⟨some 43, none, .ext 1 (.t 38)⟩,
      ⟨some 44, none, .ext 2 (.t 38)⟩,
      ⟨some 45, none, .fldA 2 1 false (.t 11)⟩,
      ⟨none, none, .store 1 (.t 45) (.t 42)⟩,
      ⟨some 12, none, .mov (.t 43)⟩,
      ⟨some 13, none, .mov (.t 44)⟩])
    (.seq (.region [⟨some 47, none, .bin false .eql (.t 17) (.c (.int .i64 5))⟩,
      ⟨some 46, none, .mov (.t 47)⟩])
    (.cond (.t 46) (.region [⟨some 49, none, .mov (.t 0)⟩,
      ⟨some 50, none, .mov (.t 1)⟩,
      ⟨some 51, none, .call i_cartoucheref1_Word [.t 49, .t 50, .c (.int .i64 4)]⟩,
      ⟨some 48, none, .mov (.t 51)⟩,
      ⟨some 52, none, .ext 0 (.t 48)⟩,
      ⟨some 53, none, .ext 1 (.t 48)⟩,
      ⟨some 54, none, .ext 2 (.t 48)⟩,
      ⟨some 55, none, .fldA 2 1 false (.t 11)⟩,
      ⟨none, none, .store 1 (.t 55) (.t 52)⟩,
      ⟨some 12, none, .mov (.t 53)⟩,
      ⟨some 13, none, .mov (.t 54)⟩])
    (.region [⟨some 19, none, .mov (.t 0)⟩,
      ⟨some 20, none, .mov (.t 1)⟩,
      ⟨some 21, none, .call i_cartoucheref1_GetChunk [.t 19, .t 20]⟩,
      ⟨some 18, none, .mov (.t 21)⟩,
      ⟨some 22, none, .ext 0 (.t 18)⟩,
      ⟨some 23, none, .ext 1 (.t 18)⟩,
      ⟨some 24, none, .ext 2 (.t 18)⟩,
      ⟨some 25, none, .fldA 3 1 false (.t 11)⟩,
      ⟨none, none, .store 1 (.t 25) (.t 22)⟩,
      ⟨some 12, none, .mov (.t 23)⟩,
      ⟨some 13, none, .mov (.t 24)⟩])))))))))
    (.seq (.seq (.region [⟨some 56, none, .mov (.t 13)⟩,
      ⟨some 57, none, .bin false .neq (.t 56) (.c (.int .i64 0))⟩])
    (.cond (.t 57) (.seq (.region [⟨some 58, none, .build [.int .i64 0, .int .i64 0, .int .u64 0, .nil] []⟩,
      ⟨some 59, none, .mov (.t 13)⟩,
      ⟨none, none, .store 4 (.t 8) (.t 58)⟩,
      ⟨some 9, none, .mov (.c (.int .i64 0))⟩,
      ⟨some 10, none, .mov (.t 59)⟩])
    .ret)
    .skip))
    (.seq (.region [⟨some 60, none, .load 4 true (.t 11)⟩,
      ⟨some 61, none, .mov (.t 12)⟩,
      ⟨none, none, .store 4 (.t 8) (.t 60)⟩,
      ⟨some 9, none, .mov (.t 61)⟩,
      ⟨some 10, none, .mov (.c (.int .i64 0))⟩])
    .ret)))))), [.cell 8 4 true, .tmp 9, .tmp 10]⟩
theorem T_cartoucheref1_Rest : trFn Try.prog [(0, [1, 0, 0]), (1, [0, 0, 0, 2, 0])] Try.f55 = some A_cartoucheref1_Rest := by kernel_rfl
theorem L_cartoucheref1_Rest : 4 ≤ Try.f55.ntmps := by decide

end Go.Proofs.Ytfmeedphpcjkmaa.Ag
