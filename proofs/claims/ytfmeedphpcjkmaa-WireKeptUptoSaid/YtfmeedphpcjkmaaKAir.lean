/- Functions printed anew: what they give is written. -/
import Derived.Test.YtfmeedphpcjkmaaWAir
set_option maxRecDepth 100000
namespace Go.Proofs.Ytfmeedphpcjkmaa.Ag
/-! cartouche/wire.GetEntry -/
def A_wire_GetEntry_k : AFn := ⟨(.seq (.region [⟨some 4, none, .alloc 40 [.int .i64 0, .int .i64 0, .int .u64 0, .nil]⟩,
      ⟨some 5, none, .mov (.c (.int .i64 0))⟩,
      ⟨some 6, none, .mov (.c (.int .i64 0))⟩])
    (.seq (.seq (.region [⟨some 8, none, .mov (.t 0)⟩,
      ⟨some 9, none, .mov (.t 1)⟩,
      ⟨some 10, none, .call i_wire_GetTag [.t 8, .t 9]⟩,
      ⟨some 7, none, .mov (.t 10)⟩,
      ⟨some 11, none, .ext 0 (.t 7)⟩,
      ⟨some 12, none, .ext 1 (.t 7)⟩,
      ⟨some 13, none, .ext 2 (.t 7)⟩,
      ⟨some 14, none, .ext 3 (.t 7)⟩,
      ⟨some 15, none, .fldA 0 1 false (.t 4)⟩,
      ⟨none, none, .store 1 (.t 15) (.t 11)⟩,
      ⟨some 16, none, .fldA 1 1 false (.t 4)⟩,
      ⟨none, none, .store 1 (.t 16) (.t 12)⟩,
      ⟨some 5, none, .mov (.t 13)⟩,
      ⟨some 6, none, .mov (.t 14)⟩])
    (.seq (.region [⟨some 17, none, .mov (.t 6)⟩,
      ⟨some 18, none, .bin false .neq (.t 17) (.c (.int .i64 0))⟩])
    (.cond (.t 18) (.seq (.region [⟨some 19, none, .build [.int .i64 0, .int .i64 0, .int .u64 0, .nil] []⟩,
      ⟨some 20, none, .mov (.t 6)⟩,
      ⟨none, none, .store 4 (.t 4) (.t 19)⟩,
      ⟨some 5, none, .mov (.c (.int .i64 0))⟩,
      ⟨some 6, none, .mov (.t 20)⟩])
    .ret)
    .skip)))
    (.seq (.seq (.region [⟨some 21, none, .fldA 1 1 false (.t 4)⟩,
      ⟨some 22, none, .load 1 false (.t 21)⟩])
    (.block 0 (.seq (.region [⟨some 32, none, .bin false .eql (.t 22) (.c (.int .i64 0))⟩,
      ⟨some 31, none, .mov (.t 32)⟩])
    (.cond (.t 31) (.region [⟨some 34, none, .mov (.t 0)⟩,
      ⟨some 35, none, .mov (.t 5)⟩,
      ⟨some 36, none, .call i_wire_GetVarint [.t 34, .t 35]⟩,
      ⟨some 33, none, .mov (.t 36)⟩,
      ⟨some 37, none, .ext 0 (.t 33)⟩,
      ⟨some 38, none, .ext 1 (.t 33)⟩,
      ⟨some 39, none, .ext 2 (.t 33)⟩,
      ⟨some 40, none, .fldA 2 1 false (.t 4)⟩,
      ⟨none, none, .store 1 (.t 40) (.t 37)⟩,
      ⟨some 5, none, .mov (.t 38)⟩,
      ⟨some 6, none, .mov (.t 39)⟩])
    (.seq (.region [⟨some 42, none, .bin false .eql (.t 22) (.c (.int .i64 1))⟩,
      ⟨some 41, none, .mov (.t 42)⟩])
    (.cond (.t 41) (.region [⟨some 44, none, .mov (.t 0)⟩,
      ⟨some 45, none, .mov (.t 5)⟩,
      ⟨some 46, none, .call i_wire_read [.t 44, .t 45, .c (.int .i64 8)]⟩,
      ⟨some 43, none, .mov (.t 46)⟩,
      ⟨some 47, none, .ext 0 (.t 43)⟩,
      ⟨some 48, none, .ext 1 (.t 43)⟩,
      ⟨some 49, none, .ext 2 (.t 43)⟩,
      ⟨some 50, none, .fldA 2 1 false (.t 4)⟩,
      ⟨none, none, .store 1 (.t 50) (.t 47)⟩,
      ⟨some 5, none, .mov (.t 48)⟩,
      ⟨some 6, none, .mov (.t 49)⟩])
    (.seq (.region [⟨some 52, none, .bin false .eql (.t 22) (.c (.int .i64 5))⟩,
      ⟨some 51, none, .mov (.t 52)⟩])
    (.cond (.t 51) (.region [⟨some 54, none, .mov (.t 0)⟩,
      ⟨some 55, none, .mov (.t 5)⟩,
      ⟨some 56, none, .call i_wire_read [.t 54, .t 55, .c (.int .i64 4)]⟩,
      ⟨some 53, none, .mov (.t 56)⟩,
      ⟨some 57, none, .ext 0 (.t 53)⟩,
      ⟨some 58, none, .ext 1 (.t 53)⟩,
      ⟨some 59, none, .ext 2 (.t 53)⟩,
      ⟨some 60, none, .fldA 2 1 false (.t 4)⟩,
      ⟨none, none, .store 1 (.t 60) (.t 57)⟩,
      ⟨some 5, none, .mov (.t 58)⟩,
      ⟨some 6, none, .mov (.t 59)⟩])
    (.region [⟨some 24, none, .mov (.t 0)⟩,
      ⟨some 25, none, .mov (.t 5)⟩,
      ⟨some 26, none, .call i_wire_GetChunk [.t 24, .t 25]⟩,
      ⟨some 23, none, .mov (.t 26)⟩,
      ⟨some 27, none, .ext 0 (.t 23)⟩,
      ⟨some 28, none, .ext 1 (.t 23)⟩,
      ⟨some 29, none, .ext 2 (.t 23)⟩,
      ⟨some 30, none, .fldA 3 1 false (.t 4)⟩,
      ⟨none, none, .store 1 (.t 30) (.t 27)⟩,
      ⟨some 5, none, .mov (.t 28)⟩,
      ⟨some 6, none, .mov (.t 29)⟩])))))))))
    (.seq (.seq (.region [⟨some 61, none, .mov (.t 6)⟩,
      ⟨some 62, none, .bin false .neq (.t 61) (.c (.int .i64 0))⟩])
    (.cond (.t 62) (.seq (.region [⟨some 63, none, .build [.int .i64 0, .int .i64 0, .int .u64 0, .nil] []⟩,
      ⟨some 64, none, .mov (.t 6)⟩,
      ⟨none, none, .store 4 (.t 4) (.t 63)⟩,
      ⟨some 5, none, .mov (.c (.int .i64 0))⟩,
      ⟨some 6, none, .mov (.t 64)⟩])
    .ret)
    .skip))
    (.seq (.region [⟨some 65, none, .load 4 true (.t 4)⟩,
      ⟨some 66, none, .mov (.t 5)⟩,
      ⟨none, none, .store 4 (.t 4) (.t 65)⟩,
      ⟨some 5, none, .mov (.t 66)⟩,
      ⟨some 6, none, .mov (.c (.int .i64 0))⟩])
    .ret))))), [.cell 4 4 true, .tmp 5, .tmp 6]⟩
theorem T_wire_GetEntry_k : trFn Try.prog [(0, [41, 0, 0])] Try.f39 = some A_wire_GetEntry_k := by kernel_rfl
theorem L_wire_GetEntry_k : 2 ≤ Try.f39.ntmps := by decide
theorem F_wire_GetEntry_k : Try.prog.funcs[i_wire_GetEntry]? = some Try.f39 := F_wire_GetEntry
/-! cartouche/wire.Split -/
def A_wire_Split_k : AFn := ⟨(.seq (.region [⟨some 2, none, .mov (.c (.nil))⟩,
      ⟨some 3, none, .mov (.c (.int .i64 0))⟩])
    (.seq (.region [⟨some 4, none, .mov (.c (.nil))⟩])
    (.seq (.seq (.region [⟨some 5, none, .mov (.c (.int .i64 0))⟩])
    (.block 0 (.loop (.seq (.seq (.region [⟨some 9, none, .mov (.t 5)⟩,
      ⟨some 10, none, .mov (.t 0)⟩,
      ⟨some 11, none, .len false (.t 10)⟩,
      ⟨some 12, none, .bin false .lss (.t 9) (.t 11)⟩])
    (.cond (.t 12) .skip
    (.exit 0)))
    (.block 1 (.seq (.region [⟨some 14, none, .mov (.t 0)⟩,
      ⟨some 15, none, .mov (.t 5)⟩,
      ⟨some 16, none, .call i_wire_GetEntry [.t 14, .t 15]⟩,
      ⟨some 13, none, .mov (.t 16)⟩,
      ⟨some 17, none, .ext 0 (.t 13)⟩,
      ⟨some 18, none, .ext 1 (.t 13)⟩,
      ⟨some 19, none, .ext 2 (.t 13)⟩,
      ⟨some 6, none, .alloc 60 [.int .i64 0, .int .i64 0, .int .u64 0, .nil]⟩,
      ⟨none, none, .store 4 (.t 6) (.t 17)⟩,
      ⟨some 7, none, .mov (.t 18)⟩,
      ⟨some 8, none, .mov (.t 19)⟩])
    (.seq (.seq (.region [⟨some 20, none, .mov (.t 8)⟩,
      ⟨some 21, none, .bin false .neq (.t 20) (.c (.int .i64 0))⟩])
    (.cond (.t 21) (.seq (.region [⟨some 22, none, .mov (.t 8)⟩,
      ⟨some 2, none, .mov (.c (.nil))⟩,
      ⟨some 3, none, .mov (.t 22)⟩])
    .ret)
    .skip))
    (.region [⟨some 23, none, .mov (.t 4)⟩,
      ⟨some 24, none, .load 4 true (.t 6)⟩,
      ⟨some 25, none, .blit 63 60 4 [.t 24]⟩,
      ⟨some 26, none, .app 61 60 4 48 (.t 23) (.t 25)⟩,
      ⟨some 27, none, .mov (.t 7)⟩,
      ⟨some 4, none, .mov (.t 26)⟩,
      ⟨some 5, none, .mov (.t 27)⟩]))))))))
    (.seq (.region [⟨some 28, none, .mov (.t 4)⟩,
      ⟨some 29, none, .len false (.t 28)⟩,
      ⟨some 30, none, .mks 62 60 4 48 (.agg [.int .i64 0, .int .i64 0, .int .u64 0, .nil]) (.c (.int .i64 0)) (.t 29)⟩,
      ⟨some 31, none, .mov (.t 4)⟩,
      ⟨some 32, none, .app 62 60 4 48 (.t 30) (.t 31)⟩,
      ⟨some 2, none, .mov (.t 32)⟩,
      ⟨some 3, none, .mov (.c (.int .i64 0))⟩])
    .ret)))), [.tmp 2, .tmp 3]⟩
theorem T_wire_Split_k : trFn Try.prog [(4, [0, 0, 0, 0, 0, 0, 0, 61, 0, 0, 0]), (7, [0, 0, 64, 61, 0, 0, 0]), (8, [0, 0, 62, 0, 62, 0, 0])] Try.f36 = some A_wire_Split_k := by kernel_rfl
theorem L_wire_Split_k : 1 ≤ Try.f36.ntmps := by decide
theorem F_wire_Split_k : Try.prog.funcs[i_wire_Split]? = some Try.f36 := F_wire_Split
/-! cartouche/cartouchelaw1.WireKept -/
def A_cartouchelaw1_WireKept_k : AFn := ⟨(.seq (.region [⟨some 4, none, .mov (.c (.bool false))⟩])
    (.seq (.seq (.region [⟨some 22, none, .call i_cartouchelaw1_awake []⟩,
      ⟨some 23, none, .un .not (.t 22)⟩])
    (.cond (.t 23) (.seq (.region [⟨some 4, none, .mov (.c (.bool false))⟩])
    .ret)
    .skip))
    (.seq (.region [⟨some 24, none, .blist 0 5 1⟩,
      ⟨some 25, none, .mov (.t 0)⟩,
      ⟨some 26, none, .app 0 5 1 1 (.t 24) (.t 25)⟩,
      ⟨some 27, none, .bslice 1 [.c (.int .u8 201)]⟩,
      ⟨some 28, none, .app 0 5 1 1 (.t 26) (.t 27)⟩,
      ⟨some 29, none, .mov (.t 0)⟩,
      ⟨some 30, none, .len false (.t 29)⟩,
      ⟨some 31, none, .slcP 10 1 (.t 28) (.t 30)⟩,
      ⟨some 5, none, .mov (.t 31)⟩])
    (.seq (.region [⟨some 33, none, .mov (.t 5)⟩,
      ⟨some 34, none, .mov (.t 1)⟩,
      ⟨some 35, none, .call i_wire_GetChunk [.t 33, .t 34]⟩,
      ⟨some 32, none, .mov (.t 35)⟩,
      ⟨some 36, none, .ext 0 (.t 32)⟩,
      ⟨some 37, none, .ext 1 (.t 32)⟩,
      ⟨some 38, none, .ext 2 (.t 32)⟩,
      ⟨some 6, none, .mov (.t 36)⟩,
      ⟨some 7, none, .mov (.t 37)⟩,
      ⟨some 8, none, .mov (.t 38)⟩])
    (.seq (.region [⟨some 39, none, .mov (.t 5)⟩,
      ⟨some 40, none, .call i_wire_PutChunk [.t 39]⟩,
      ⟨some 9, none, .mov (.t 40)⟩])
    (.seq (.region [⟨some 42, none, .mov (.t 5)⟩,
      ⟨some 43, none, .call i_wire_Split [.t 42]⟩,
      ⟨some 41, none, .mov (.t 43)⟩,
      ⟨some 44, none, .ext 0 (.t 41)⟩,
      ⟨some 45, none, .ext 1 (.t 41)⟩,
      ⟨some 10, none, .mov (.t 44)⟩,
      ⟨some 11, none, .mov (.t 45)⟩])
    (.seq (.region [⟨some 47, none, .mov (.t 5)⟩,
      ⟨some 48, none, .call i_wire_Split [.t 47]⟩,
      ⟨some 46, none, .mov (.t 48)⟩,
      ⟨some 49, none, .ext 0 (.t 46)⟩,
      ⟨some 50, none, .ext 1 (.t 46)⟩,
      ⟨some 12, none, .mov (.t 49)⟩,
      ⟨some 13, none, .mov (.t 50)⟩])
    (.seq (.seq (.region [⟨some 14, none, .mov (.c (.int .i64 0))⟩])
    (.block 0 (.loop (.seq (.seq (.region [⟨some 51, none, .mov (.t 14)⟩,
      ⟨some 52, none, .mov (.t 6)⟩,
      ⟨some 53, none, .len false (.t 52)⟩,
      ⟨some 54, none, .bin false .lss (.t 51) (.t 53)⟩])
    (.cond (.t 54) .skip
    (.exit 0)))
    (.seq (.block 1 (.region [⟨some 57, none, .mov (.t 6)⟩,
      ⟨some 58, none, .mov (.t 14)⟩,
      ⟨some 59, none, .idxA 1 (.t 57) (.t 58)⟩,
      ⟨none, none, .store 1 (.t 59) (.c (.int .u8 99))⟩]))
    (.region [⟨some 55, none, .mov (.t 14)⟩,
      ⟨some 56, none, .bin false .add (.t 55) (.c (.int .i64 1))⟩,
      ⟨some 14, none, .mov (.t 56)⟩]))))))
    (.seq (.region [⟨some 60, none, .mov (.t 6)⟩,
      ⟨some 61, none, .bslice 1 [.c (.int .u8 98), .c (.int .u8 97)]⟩,
      ⟨some 62, none, .app 1 5 1 1 (.t 60) (.t 61)⟩,
      ⟨some 6, none, .mov (.t 62)⟩])
    (.seq (.seq (.region [⟨some 15, none, .mov (.c (.int .i64 0))⟩])
    (.block 2 (.loop (.seq (.seq (.region [⟨some 63, none, .mov (.t 15)⟩,
      ⟨some 64, none, .mov (.t 9)⟩,
      ⟨some 65, none, .len false (.t 64)⟩,
      ⟨some 66, none, .bin false .lss (.t 63) (.t 65)⟩])
    (.cond (.t 66) .skip
    (.exit 2)))
    (.seq (.block 3 (.region [⟨some 69, none, .mov (.t 9)⟩,
      ⟨some 70, none, .mov (.t 15)⟩,
      ⟨some 71, none, .idxA 1 (.t 69) (.t 70)⟩,
      ⟨none, none, .store 1 (.t 71) (.c (.int .u8 96))⟩]))
    (.region [⟨some 67, none, .mov (.t 15)⟩,
      ⟨some 68, none, .bin false .add (.t 67) (.c (.int .i64 1))⟩,
      ⟨some 15, none, .mov (.t 68)⟩]))))))
    (.seq (.region [⟨some 72, none, .mov (.t 9)⟩,
      ⟨some 73, none, .bslice 1 [.c (.int .u8 95), .c (.int .u8 94)]⟩,
      ⟨some 74, none, .app 2 5 1 1 (.t 72) (.t 73)⟩,
      ⟨some 9, none, .mov (.t 74)⟩])
    (.seq (.seq (.region [⟨some 16, none, .mov (.c (.int .i64 0))⟩])
    (.block 4 (.loop (.seq (.seq (.region [⟨some 75, none, .mov (.t 16)⟩,
      ⟨some 76, none, .mov (.t 10)⟩,
      ⟨some 77, none, .len false (.t 76)⟩,
      ⟨some 78, none, .bin false .lss (.t 75) (.t 77)⟩])
    (.cond (.t 78) .skip
    (.exit 4)))
    (.seq (.block 5 (.seq (.seq (.region [⟨some 17, none, .mov (.c (.int .i64 0))⟩])
    (.block 6 (.loop (.seq (.seq (.region [⟨some 81, none, .mov (.t 17)⟩,
      ⟨some 82, none, .mov (.t 10)⟩,
      ⟨some 83, none, .mov (.t 16)⟩,
      ⟨some 84, none, .idxA 4 (.t 82) (.t 83)⟩,
      ⟨some 85, none, .fldA 3 1 false (.t 84)⟩,
      ⟨some 86, none, .load 1 false (.t 85)⟩,
      ⟨some 87, none, .len false (.t 86)⟩,
      ⟨some 88, none, .bin false .lss (.t 81) (.t 87)⟩])
    (.cond (.t 88) .skip
    (.exit 6)))
    (.seq (.block 7 (.region [⟨some 91, none, .mov (.t 10)⟩,
      ⟨some 92, none, .mov (.t 16)⟩,
      ⟨some 93, none, .idxA 4 (.t 91) (.t 92)⟩,
      ⟨some 94, none, .fldA 3 1 false (.t 93)⟩,
      ⟨some 95, none, .load 1 false (.t 94)⟩,
      ⟨some 96, none, .mov (.t 17)⟩,
      ⟨some 97, none, .mov (.t 16)⟩,
      ⟨some 98, none, .conv .u8 (.t 97)⟩,
      ⟨some 99, none, .idxA 1 (.t 95) (.t 96)⟩,
      ⟨none, none, .store 1 (.t 99) (.t 98)⟩]))
    (.region [⟨some 89, none, .mov (.t 17)⟩,
      ⟨some 90, none, .bin false .add (.t 89) (.c (.int .i64 1))⟩,
      ⟨some 17, none, .mov (.t 90)⟩]))))))
    (.region [⟨some 100, none, .mov (.t 10)⟩,
      ⟨some 101, none, .mov (.t 16)⟩,
      ⟨some 102, none, .mov (.t 10)⟩,
      ⟨some 103, none, .mov (.t 16)⟩,
      ⟨some 104, none, .idxA 4 (.t 102) (.t 103)⟩,
      ⟨some 105, none, .fldA 3 1 false (.t 104)⟩,
      ⟨some 106, none, .load 1 false (.t 105)⟩,
      ⟨some 107, none, .bslice 1 [.c (.int .u8 93)]⟩,
      ⟨some 108, none, .app 3 5 1 1 (.t 106) (.t 107)⟩,
      ⟨some 109, none, .idxA 4 (.t 100) (.t 101)⟩,
      ⟨some 110, none, .fldA 3 1 false (.t 109)⟩,
      ⟨none, none, .store 1 (.t 110) (.t 108)⟩])))
    (.region [⟨some 79, none, .mov (.t 16)⟩,
      ⟨some 80, none, .bin false .add (.t 79) (.c (.int .i64 1))⟩,
      ⟨some 16, none, .mov (.t 80)⟩]))))))
    (.seq (.seq (.region [⟨some 18, none, .mov (.c (.int .i64 0))⟩])
    (.block 8 (.loop (.seq (.seq (.region [⟨some 111, none, .mov (.t 18)⟩,
      ⟨some 112, none, .mov (.t 10)⟩,
      ⟨some 113, none, .len false (.t 112)⟩,
      ⟨some 114, none, .bin false .lss (.t 111) (.t 113)⟩])
    (.cond (.t 114) .skip
    (.exit 8)))
    (.seq (.block 9 (.seq (.region [⟨some 19, none, .mov (.c (.int .i64 0))⟩])
    (.block 10 (.loop (.seq (.seq (.region [⟨some 117, none, .mov (.t 19)⟩,
      ⟨some 118, none, .bin false .add (.t 117) (.c (.int .i64 1))⟩,
      ⟨some 119, none, .mov (.t 10)⟩,
      ⟨some 120, none, .mov (.t 18)⟩,
      ⟨some 121, none, .idxA 4 (.t 119) (.t 120)⟩,
      ⟨some 122, none, .fldA 3 1 false (.t 121)⟩,
      ⟨some 123, none, .load 1 false (.t 122)⟩,
      ⟨some 124, none, .len false (.t 123)⟩,
      ⟨some 125, none, .bin false .lss (.t 118) (.t 124)⟩])
    (.cond (.t 125) .skip
    (.exit 10)))
    (.seq (.block 11 (.seq (.region [⟨some 128, none, .mov (.t 10)⟩,
      ⟨some 129, none, .mov (.t 18)⟩,
      ⟨some 130, none, .idxA 4 (.t 128) (.t 129)⟩,
      ⟨some 131, none, .fldA 3 1 false (.t 130)⟩,
      ⟨some 132, none, .load 1 false (.t 131)⟩,
      ⟨some 133, none, .mov (.t 19)⟩,
      ⟨some 134, none, .idxA 1 (.t 132) (.t 133)⟩,
      ⟨some 135, none, .load 1 false (.t 134)⟩,
      ⟨some 136, none, .mov (.t 18)⟩,
      ⟨some 137, none, .conv .u8 (.t 136)⟩,
      ⟨some 138, none, .bin false .neq (.t 135) (.t 137)⟩])
    (.cond (.t 138) (.seq (.region [⟨some 4, none, .mov (.c (.bool false))⟩])
    .ret)
    .skip)))
    (.region [⟨some 126, none, .mov (.t 19)⟩,
      ⟨some 127, none, .bin false .add (.t 126) (.c (.int .i64 1))⟩,
      ⟨some 19, none, .mov (.t 127)⟩])))))))
    (.region [⟨some 115, none, .mov (.t 18)⟩,
      ⟨some 116, none, .bin false .add (.t 115) (.c (.int .i64 1))⟩,
      ⟨some 18, none, .mov (.t 116)⟩]))))))
    (.seq (.region [⟨some 140, none, .mov (.t 0)⟩,
      ⟨some 141, none, .call i_wire_Split [.t 140]⟩,
      ⟨some 139, none, .mov (.t 141)⟩,
      ⟨some 142, none, .ext 0 (.t 139)⟩,
      ⟨some 143, none, .ext 1 (.t 139)⟩,
      ⟨some 20, none, .mov (.t 142)⟩,
      ⟨some 21, none, .mov (.t 143)⟩])
    (.seq (.region [⟨some 144, none, .mov (.t 5)⟩,
      ⟨some 145, none, .mov (.t 0)⟩,
      ⟨some 146, none, .call i_cartouchelaw1_same [.t 144, .t 145]⟩,
      ⟨some 147, none, .mov (.t 146)⟩,
      ⟨some 148, some (147, true), .mov (.t 5)⟩,
      ⟨some 149, some (147, true), .mov (.t 0)⟩,
      ⟨some 150, some (147, true), .len false (.t 149)⟩,
      ⟨some 151, some (147, true), .bin false .add (.t 150) (.c (.int .i64 1))⟩,
      ⟨some 152, some (147, true), .slcQ 1 (.t 148) (.t 151)⟩,
      ⟨some 153, some (147, true), .mov (.t 0)⟩,
      ⟨some 154, some (147, true), .len false (.t 153)⟩,
      ⟨some 155, some (147, true), .idxA 1 (.t 152) (.t 154)⟩,
      ⟨some 156, some (147, true), .load 1 false (.t 155)⟩,
      ⟨some 157, some (147, true), .bin false .eql (.t 156) (.c (.int .u8 201))⟩,
      ⟨some 158, none, .pickb (.t 147) (.t 157) (.c (.bool false))⟩,
      ⟨some 159, none, .mov (.t 158)⟩,
      ⟨some 160, some (159, true), .mov (.t 12)⟩,
      ⟨some 161, some (159, true), .mov (.t 20)⟩,
      ⟨some 162, some (159, true), .call i_cartoucheref1_List [.t 160, .t 161]⟩,
      ⟨some 163, none, .pickb (.t 159) (.t 162) (.c (.bool false))⟩,
      ⟨some 4, none, .mov (.t 163)⟩])
    .ret))))))))))))))), [.tmp 4]⟩
theorem T_cartouchelaw1_WireKept_k : trFn Try.prog [(3, [0, 0, 0, 0, 0, 0, 0, 12, 0]), (12, [0, 0, 1, 0]), (17, [0, 0, 2, 0]), (25, [0, 0, 0, 0, 0, 0, 0, 0, 3, 0, 0, 0]), (35, [0, 0, 0, 0, 0, 0, 0, 0, 1, 0, 0, 0, 0, 0, 0, 0, 0, 0, 0, 0, 0])] Try.f6 = some A_cartouchelaw1_WireKept_k := by kernel_rfl
theorem L_cartouchelaw1_WireKept_k : 2 ≤ Try.f6.ntmps := by decide
theorem F_cartouchelaw1_WireKept_k : Try.prog.funcs[i_cartouchelaw1_WireKept]? = some Try.f6 := F_cartouchelaw1_WireKept
end Go.Proofs.Ytfmeedphpcjkmaa.Ag
