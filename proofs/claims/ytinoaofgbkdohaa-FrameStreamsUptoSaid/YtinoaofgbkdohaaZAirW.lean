/- The wire functions, at the frames' seat, as the walk has them. -/
import Derived.Test.YtinoaofgbkdohaaProg
import Derived.Test.YtinoaofgbkdohaaAg16
namespace Go.Proofs.Ytinoaofgbkdohaa.Ag
set_option maxRecDepth 100000
abbrev i_cartouchelaw23_lists : FuncId := 15
theorem F_cartouchelaw23_lists : Try.prog.funcs[i_cartouchelaw23_lists]? = some Try.f15 := Try.func15
abbrev i_cartouchelaw23_parts : FuncId := 16
theorem F_cartouchelaw23_parts : Try.prog.funcs[i_cartouchelaw23_parts]? = some Try.f16 := Try.func16
abbrev i_wire_PutVarint : FuncId := 17
theorem F_wire_PutVarint : Try.prog.funcs[i_wire_PutVarint]? = some Try.f17 := Try.func17
abbrev i_wire_PutFix32 : FuncId := 18
theorem F_wire_PutFix32 : Try.prog.funcs[i_wire_PutFix32]? = some Try.f18 := Try.func18
abbrev i_wire_varint : FuncId := 24
theorem F_wire_varint : Try.prog.funcs[i_wire_varint]? = some Try.f24 := Try.func24
abbrev i_wire_Size : FuncId := 25
theorem F_wire_Size : Try.prog.funcs[i_wire_Size]? = some Try.f25 := Try.func25
abbrev i_wire_word : FuncId := 26
theorem F_wire_word : Try.prog.funcs[i_wire_word]? = some Try.f26 := Try.func26
abbrev i_wire_GetVarint : FuncId := 27
theorem F_wire_GetVarint : Try.prog.funcs[i_wire_GetVarint]? = some Try.f27 := Try.func27
abbrev i_wire_GetFix32 : FuncId := 28
theorem F_wire_GetFix32 : Try.prog.funcs[i_wire_GetFix32]? = some Try.f28 := Try.func28
abbrev i_cartoucheref1_PutVarint : FuncId := 31
theorem F_cartoucheref1_PutVarint : Try.prog.funcs[i_cartoucheref1_PutVarint]? = some Try.f31 := Try.func31
abbrev i_cartoucheref1_PutWord : FuncId := 32
theorem F_cartoucheref1_PutWord : Try.prog.funcs[i_cartoucheref1_PutWord]? = some Try.f32 := Try.func32
abbrev i_cartoucheref1_GetVarint : FuncId := 33
theorem F_cartoucheref1_GetVarint : Try.prog.funcs[i_cartoucheref1_GetVarint]? = some Try.f33 := Try.func33
abbrev i_bits_Len64 : FuncId := 34
theorem F_bits_Len64 : Try.prog.funcs[i_bits_Len64]? = some Try.f34 := Try.func34
abbrev i_wire_place : FuncId := 35
theorem F_wire_place : Try.prog.funcs[i_wire_place]? = some Try.f35 := Try.func35
abbrev i_wire_read : FuncId := 36
theorem F_wire_read : Try.prog.funcs[i_wire_read]? = some Try.f36 := Try.func36

def A_cartouchelaw23_lists : AFn := ⟨(.seq (.region [⟨some 4, none, .mov (.c (.bool false))⟩])
    (.seq (.seq (.region [⟨some 6, none, .mov (.t 0)⟩,
      ⟨some 7, none, .len false (.t 6)⟩,
      ⟨some 8, none, .mov (.t 1)⟩,
      ⟨some 9, none, .len false (.t 8)⟩,
      ⟨some 10, none, .bin false .neq (.t 7) (.t 9)⟩])
    (.cond (.t 10) (.seq (.region [⟨some 4, none, .mov (.c (.bool false))⟩])
    .ret)
    .skip))
    (.seq (.seq (.region [⟨some 5, none, .mov (.c (.int .i64 0))⟩])
    (.block 0 (.loop (.seq (.seq (.region [⟨some 11, none, .mov (.t 5)⟩,
      ⟨some 12, none, .mov (.t 0)⟩,
      ⟨some 13, none, .len false (.t 12)⟩,
      ⟨some 14, none, .bin false .lss (.t 11) (.t 13)⟩])
    (.cond (.t 14) .skip
    (.exit 0)))
    (.seq (.block 1 (.seq (.draw [] [⟨some 17, none, .mov (.t 0)⟩,
      ⟨some 18, none, .mov (.t 5)⟩,
      ⟨some 19, none, .idxA 1 (.t 17) (.t 18)⟩,
      ⟨some 20, none, .load 1 false (.t 19)⟩,
      ⟨some 21, none, .b2s (.t 20)⟩,
      ⟨some 22, none, .mov (.t 1)⟩,
      ⟨some 23, none, .mov (.t 5)⟩,
      ⟨some 24, none, .idxA 1 (.t 22) (.t 23)⟩,
      ⟨some 25, none, .load 1 false (.t 24)⟩,
      ⟨some 26, none, .b2s (.t 25)⟩,
      ⟨some 27, none, .bin false .neq (.t 21) (.t 26)⟩])
    (.cond (.t 27) (.seq (.region [⟨some 4, none, .mov (.c (.bool false))⟩])
    .ret)
    .skip)))
    (.region [⟨some 15, none, .mov (.t 5)⟩,
      ⟨some 16, none, .bin false .add (.t 15) (.c (.int .i64 1))⟩,
      ⟨some 5, none, .mov (.t 16)⟩]))))))
    (.seq (.region [⟨some 4, none, .mov (.c (.bool true))⟩])
    .ret)))), [.tmp 4]⟩
theorem T_cartouchelaw23_lists : trFn Try.prog [] Try.f15 = some A_cartouchelaw23_lists := by kernel_rfl
theorem L_cartouchelaw23_lists : 2 ≤ Try.f15.ntmps := by decide

def A_cartouchelaw23_parts : AFn := ⟨(.seq (.region [⟨some 4, none, .mov (.c (.bool false))⟩])
    (.seq (.seq (.region [⟨some 6, none, .mov (.t 0)⟩,
      ⟨some 7, none, .len false (.t 6)⟩,
      ⟨some 8, none, .mov (.t 1)⟩,
      ⟨some 9, none, .len false (.t 8)⟩,
      ⟨some 10, none, .bin false .neq (.t 7) (.t 9)⟩])
    (.cond (.t 10) (.seq (.region [⟨some 4, none, .mov (.c (.bool false))⟩])
    .ret)
    .skip))
    (.seq (.seq (.region [⟨some 5, none, .mov (.c (.int .i64 0))⟩])
    (.block 0 (.loop (.seq (.seq (.region [⟨some 11, none, .mov (.t 5)⟩,
      ⟨some 12, none, .mov (.t 0)⟩,
      ⟨some 13, none, .len false (.t 12)⟩,
      ⟨some 14, none, .bin false .lss (.t 11) (.t 13)⟩])
    (.cond (.t 14) .skip
    (.exit 0)))
    (.seq (.block 1 (.seq (.draw [] [⟨some 17, none, .mov (.t 0)⟩,
      ⟨some 18, none, .mov (.t 5)⟩,
      ⟨some 19, none, .idxA 2 (.t 17) (.t 18)⟩,
      ⟨some 20, none, .fldA 0 1 false (.t 19)⟩,
      ⟨some 21, none, .load 1 false (.t 20)⟩,
      ⟨some 22, none, .mov (.t 1)⟩,
      ⟨some 23, none, .mov (.t 5)⟩,
      ⟨some 24, none, .idxA 2 (.t 22) (.t 23)⟩,
      ⟨some 25, none, .fldA 0 1 false (.t 24)⟩,
      ⟨some 26, none, .load 1 false (.t 25)⟩,
      ⟨some 27, none, .bin false .neq (.t 21) (.t 26)⟩,
      ⟨some 28, none, .mov (.t 27)⟩,
      ⟨some 29, some (28, false), .mov (.t 0)⟩,
      ⟨some 30, some (28, false), .mov (.t 5)⟩,
      ⟨some 31, some (28, false), .idxA 2 (.t 29) (.t 30)⟩,
      ⟨some 32, some (28, false), .fldA 1 1 false (.t 31)⟩,
      ⟨some 33, some (28, false), .load 1 false (.t 32)⟩,
      ⟨some 34, some (28, false), .b2s (.t 33)⟩,
      ⟨some 35, some (28, false), .mov (.t 1)⟩,
      ⟨some 36, some (28, false), .mov (.t 5)⟩,
      ⟨some 37, some (28, false), .idxA 2 (.t 35) (.t 36)⟩,
      ⟨some 38, some (28, false), .fldA 1 1 false (.t 37)⟩,
      ⟨some 39, some (28, false), .load 1 false (.t 38)⟩,
      ⟨some 40, some (28, false), .b2s (.t 39)⟩,
      ⟨some 41, some (28, false), .bin false .neq (.t 34) (.t 40)⟩,
      ⟨some 42, none, .pickb (.t 28) (.c (.bool true)) (.t 41)⟩])
    (.cond (.t 42) (.seq (.region [⟨some 4, none, .mov (.c (.bool false))⟩])
    .ret)
    .skip)))
    (.region [⟨some 15, none, .mov (.t 5)⟩,
      ⟨some 16, none, .bin false .add (.t 15) (.c (.int .i64 1))⟩,
      ⟨some 5, none, .mov (.t 16)⟩]))))))
    (.seq (.region [⟨some 4, none, .mov (.c (.bool true))⟩])
    .ret)))), [.tmp 4]⟩
theorem T_cartouchelaw23_parts : trFn Try.prog [] Try.f16 = some A_cartouchelaw23_parts := by kernel_rfl
theorem L_cartouchelaw23_parts : 2 ≤ Try.f16.ntmps := by decide

def A_wire_PutVarint : AFn := ⟨(.seq (.region [⟨some 2, none, .mov (.c (.nil))⟩])
    (.seq (.region [⟨some 3, none, .mov (.t 0)⟩,
      ⟨some 4, none, .call i_wire_Size [.t 3]⟩,
      ⟨some 5, none, .mks 0 5 1 1 (.int .u8 0) (.c (.int .i64 0)) (.t 4)⟩,
      ⟨some 6, none, .mov (.t 0)⟩,
      ⟨some 7, none, .call i_wire_varint [.t 5, .t 6]⟩,
      ⟨some 2, none, .mov (.t 7)⟩])
    .ret)), [.tmp 2]⟩
theorem T_wire_PutVarint : trFn Try.prog [] Try.f17 = some A_wire_PutVarint := by kernel_rfl
theorem L_wire_PutVarint : 1 ≤ Try.f17.ntmps := by decide

def A_wire_PutFix32 : AFn := ⟨(.seq (.region [⟨some 2, none, .mov (.c (.nil))⟩])
    (.seq (.region [⟨some 3, none, .mov (.t 0)⟩,
      ⟨some 4, none, .conv .u64 (.t 3)⟩,
      ⟨some 5, none, .call i_wire_word [.t 4, .c (.int .i64 4)]⟩,
      ⟨some 2, none, .mov (.t 5)⟩])
    .ret)), [.tmp 2]⟩
theorem T_wire_PutFix32 : trFn Try.prog [] Try.f18 = some A_wire_PutFix32 := by kernel_rfl
theorem L_wire_PutFix32 : 1 ≤ Try.f18.ntmps := by decide

def A_wire_varint : AFn := ⟨(.seq (.region [⟨some 4, none, .mov (.c (.nil))⟩])
    (.seq (.block 0 (.loop (.seq (.seq (.region [⟨some 5, none, .mov (.t 1)⟩,
      ⟨some 6, none, .bin false .geq (.t 5) (.c (.int .u64 128))⟩])
    (.cond (.t 6) .skip
    (.exit 0)))
    (.block 1 (.seq (.region [⟨some 7, none, .mov (.t 0)⟩,
      ⟨some 8, none, .mov (.t 1)⟩,
      ⟨some 9, none, .conv .u8 (.t 8)⟩,
      ⟨some 10, none, .bin false .or (.t 9) (.c (.int .u8 128))⟩,
      ⟨some 11, none, .bslice 1 [.t 10]⟩,
      ⟨some 12, none, .app 0 5 1 1 (.t 7) (.t 11)⟩,
      ⟨some 0, none, .mov (.t 12)⟩])
    (.region [⟨some 13, none, .mov (.t 1)⟩,
      ⟨some 14, none, .bin false .shr (.t 13) (.c (.int .u64 7))⟩,
      ⟨some 1, none, .mov (.t 14)⟩]))))))
    (.seq (.region [⟨some 15, none, .mov (.t 0)⟩,
      ⟨some 16, none, .mov (.t 1)⟩,
      ⟨some 17, none, .conv .u8 (.t 16)⟩,
      ⟨some 18, none, .bslice 1 [.t 17]⟩,
      ⟨some 19, none, .app 0 5 1 1 (.t 15) (.t 18)⟩,
      ⟨some 4, none, .mov (.t 19)⟩])
    .ret))), [.tmp 4]⟩
theorem T_wire_varint : trFn Try.prog [] Try.f24 = some A_wire_varint := by kernel_rfl
theorem L_wire_varint : 2 ≤ Try.f24.ntmps := by decide

def A_wire_Size : AFn := ⟨(.seq (.region [⟨some 2, none, .mov (.c (.int .i64 0))⟩])
    (.seq (.region [⟨some 3, none, .mov (.t 0)⟩,
      ⟨some 4, none, .call i_bits_Len64 [.t 3]⟩,
      ⟨some 5, none, .mm true (.c (.int .i64 1)) (.t 4)⟩,
      ⟨some 6, none, .bin false .add (.t 5) (.c (.int .i64 7))⟩,
      ⟨some 7, none, .bin false .sub (.t 6) (.c (.int .i64 1))⟩,
      ⟨some 8, none, .bin false .quo (.t 7) (.c (.int .i64 7))⟩,
      ⟨some 2, none, .mov (.t 8)⟩])
    .ret)), [.tmp 2]⟩
theorem T_wire_Size : trFn Try.prog [] Try.f25 = some A_wire_Size := by kernel_rfl
theorem L_wire_Size : 1 ≤ Try.f25.ntmps := by decide

def A_wire_word : AFn := ⟨(.seq (.region [⟨some 4, none, .mov (.c (.nil))⟩])
    (.seq (.region [⟨some 7, none, .mov (.t 1)⟩,
      ⟨some 8, none, .mks 0 5 1 1 (.int .u8 0) (.c (.int .i64 0)) (.t 7)⟩,
      ⟨some 5, none, .mov (.t 8)⟩])
    (.seq (.seq (.region [⟨some 9, none, .mov (.t 1)⟩,
      ⟨some 10, none, .mov (.c (.int .i64 0))⟩])
    (.block 0 (.loop (.seq (.region [⟨some 11, none, .bin false .lss (.t 10) (.t 9)⟩])
    (.seq (.cond (.t 11) .skip
    (.exit 0))
    (.seq (.block 1 (.seq (.region [⟨some 12, none, .mov (.t 10)⟩,
      ⟨some 6, none, .mov (.t 12)⟩])
    (.region [⟨some 13, none, .mov (.t 5)⟩,
      ⟨some 14, none, .mov (.t 0)⟩,
      ⟨some 15, none, .mov (.t 6)⟩,
      ⟨some 16, none, .bin false .mul (.c (.int .i64 8)) (.t 15)⟩,
      ⟨some 17, none, .bin false .shr (.t 14) (.t 16)⟩,
      ⟨some 18, none, .conv .u8 (.t 17)⟩,
      ⟨some 19, none, .bslice 1 [.t 18]⟩,
      ⟨some 20, none, .app 1 5 1 1 (.t 13) (.t 19)⟩,
      ⟨some 5, none, .mov (.t 20)⟩])))
    (.region [⟨some 21, none, .bin false .add (.t 10) (.c (.int .i64 1))⟩,
      ⟨some 10, none, .mov (.t 21)⟩])))))))
    (.seq (.region [⟨some 22, none, .mov (.t 5)⟩,
      ⟨some 4, none, .mov (.t 22)⟩])
    .ret)))), [.tmp 4]⟩
theorem T_wire_word : trFn Try.prog [(5, [0, 0, 0, 0, 0, 0, 0, 1, 0])] Try.f26 = some A_wire_word := by kernel_rfl
theorem L_wire_word : 2 ≤ Try.f26.ntmps := by decide

def A_wire_GetVarint : AFn := ⟨(.seq (.region [⟨some 4, none, .mov (.c (.int .u64 0))⟩,
      ⟨some 5, none, .mov (.c (.int .i64 0))⟩,
      ⟨some 6, none, .mov (.c (.int .i64 0))⟩])
    (.scope (.seq (.seq (.region [⟨some 9, none, .mov (.t 0)⟩,
      ⟨some 10, none, .mov (.t 1)⟩,
      ⟨some 11, none, .call i_wire_place [.t 9, .t 10]⟩,
      ⟨some 12, none, .un .not (.t 11)⟩])
    (.cond (.t 12) (.seq (.region [⟨some 4, none, .mov (.c (.int .u64 0))⟩,
      ⟨some 5, none, .mov (.c (.int .i64 0))⟩,
      ⟨some 6, none, .mov (.c (.int .i64 18))⟩])
    .ret)
    .skip))
    (.seq .label
    (.seq (.seq (.region [⟨some 13, none, .mov (.c (.int .i64 0))⟩])
    (.block 0 (.loop (.seq (.region [⟨some 14, none, .bin false .lss (.t 13) (.c (.int .i64 10))⟩])
    (.seq (.cond (.t 14) .skip
    (.exit 0))
    (.seq (.block 1 (.seq (.region [⟨some 15, none, .mov (.t 13)⟩,
      ⟨some 7, none, .mov (.t 15)⟩])
    (.seq (.seq (.region [⟨some 16, none, .mov (.t 1)⟩,
      ⟨some 17, none, .mov (.t 7)⟩,
      ⟨some 18, none, .bin false .add (.t 16) (.t 17)⟩,
      ⟨some 19, none, .mov (.t 0)⟩,
      ⟨some 20, none, .len false (.t 19)⟩,
      ⟨some 21, none, .bin false .eql (.t 18) (.t 20)⟩])
    (.cond (.t 21) (.exit 0)
    .skip))
    (.seq (.region [⟨some 22, none, .mov (.t 0)⟩,
      ⟨some 23, none, .mov (.t 1)⟩,
      ⟨some 24, none, .mov (.t 7)⟩,
      ⟨some 25, none, .bin false .add (.t 23) (.t 24)⟩,
      ⟨some 26, none, .idxA 1 (.t 22) (.t 25)⟩,
      ⟨some 27, none, .load 1 false (.t 26)⟩,
      ⟨some 8, none, .mov (.t 27)⟩])
    (.seq (.seq (.region [⟨some 28, none, .mov (.t 7)⟩,
      ⟨some 29, none, .bin false .eql (.t 28) (.c (.int .i64 9))⟩,
      ⟨some 30, none, .mov (.t 29)⟩,
      ⟨some 31, some (30, true), .mov (.t 8)⟩,
      ⟨some 32, some (30, true), .bin false .gtr (.t 31) (.c (.int .u8 1))⟩,
      ⟨some 33, none, .pickb (.t 30) (.t 32) (.c (.bool false))⟩])
    (.cond (.t 33) (.seq (.region [⟨some 4, none, .mov (.c (.int .u64 0))⟩,
      ⟨some 5, none, .mov (.c (.int .i64 0))⟩,
      ⟨some 6, none, .mov (.c (.int .i64 4))⟩])
    .ret)
    .skip))
    (.seq (.region [⟨some 34, none, .mov (.t 4)⟩,
      ⟨some 35, none, .mov (.t 8)⟩,
      ⟨some 36, none, .bin false .and (.t 35) (.c (.int .u8 127))⟩,
      ⟨some 37, none, .conv .u64 (.t 36)⟩,
      ⟨some 38, none, .mov (.t 7)⟩,
      ⟨some 39, none, .bin false .mul (.c (.int .i64 7)) (.t 38)⟩,
      ⟨some 40, none, .bin false .shl (.t 37) (.t 39)⟩,
      ⟨some 41, none, .bin false .or (.t 34) (.t 40)⟩,
      ⟨some 4, none, .mov (.t 41)⟩])
    (.seq (.region [⟨some 42, none, .mov (.t 8)⟩,
      ⟨some 43, none, .bin false .lss (.t 42) (.c (.int .u8 128))⟩])
    (.cond (.t 43) (.seq (.region [⟨some 44, none, .mov (.t 4)⟩,
      ⟨some 45, none, .mov (.t 1)⟩,
      ⟨some 46, none, .mov (.t 7)⟩,
      ⟨some 47, none, .bin false .add (.t 45) (.t 46)⟩,
      ⟨some 48, none, .bin false .add (.t 47) (.c (.int .i64 1))⟩,
      ⟨some 4, none, .mov (.t 44)⟩,
      ⟨some 5, none, .mov (.t 48)⟩,
      ⟨some 6, none, .mov (.c (.int .i64 0))⟩])
    .ret)
    .skip))))))))
    (.region [⟨some 49, none, .bin false .add (.t 13) (.c (.int .i64 1))⟩,
      ⟨some 13, none, .mov (.t 49)⟩])))))))
    (.seq (.region [⟨some 4, none, .mov (.c (.int .u64 0))⟩,
      ⟨some 5, none, .mov (.c (.int .i64 0))⟩,
      ⟨some 6, none, .mov (.c (.int .i64 3))⟩])
    .ret)))))), [.tmp 4, .tmp 5, .tmp 6]⟩
theorem T_wire_GetVarint : trFn Try.prog [] Try.f27 = some A_wire_GetVarint := by kernel_rfl
theorem L_wire_GetVarint : 2 ≤ Try.f27.ntmps := by decide

def A_wire_GetFix32 : AFn := ⟨(.seq (.region [⟨some 4, none, .mov (.c (.int .u32 0))⟩,
      ⟨some 5, none, .mov (.c (.int .i64 0))⟩,
      ⟨some 6, none, .mov (.c (.int .i64 0))⟩])
    (.seq (.region [⟨some 9, none, .mov (.t 0)⟩,
      ⟨some 10, none, .mov (.t 1)⟩,
      ⟨some 11, none, .call i_wire_read [.t 9, .t 10, .c (.int .i64 4)]⟩,
      ⟨some 8, none, .mov (.t 11)⟩,
      ⟨some 12, none, .ext 0 (.t 8)⟩,
      ⟨some 13, none, .ext 1 (.t 8)⟩,
      ⟨some 14, none, .ext 2 (.t 8)⟩,
      ⟨some 7, none, .mov (.t 12)⟩,
      ⟨some 5, none, .mov (.t 13)⟩,
      ⟨some 6, none, .mov (.t 14)⟩])
    (.seq (.region [⟨some 15, none, .mov (.t 7)⟩,
      ⟨some 16, none, .conv .u32 (.t 15)⟩,
      ⟨some 17, none, .mov (.t 5)⟩,
      ⟨some 18, none, .mov (.t 6)⟩,
      ⟨some 4, none, .mov (.t 16)⟩,
      ⟨some 5, none, .mov (.t 17)⟩,
      ⟨some 6, none, .mov (.t 18)⟩])
    .ret))), [.tmp 4, .tmp 5, .tmp 6]⟩
theorem T_wire_GetFix32 : trFn Try.prog [] Try.f28 = some A_wire_GetFix32 := by kernel_rfl
theorem L_wire_GetFix32 : 2 ≤ Try.f28.ntmps := by decide

def A_cartoucheref1_PutVarint : AFn := ⟨(.seq (.region [⟨some 2, none, .mov (.c (.nil))⟩])
    (.seq (.region [⟨some 3, none, .mov (.c (.nil))⟩])
    (.seq (.block 0 (.loop (.seq (.seq (.region [⟨some 4, none, .mov (.t 0)⟩,
      ⟨some 5, none, .bin false .geq (.t 4) (.c (.int .u64 128))⟩])
    (.cond (.t 5) .skip
    (.exit 0)))
    (.block 1 (.seq (.region [⟨some 6, none, .mov (.t 3)⟩,
      ⟨some 7, none, .mov (.t 0)⟩,
      ⟨some 8, none, .bin false .rem (.t 7) (.c (.int .u64 128))⟩,
      ⟨some 9, none, .conv .u8 (.t 8)⟩,
      ⟨some 10, none, .bin false .add (.t 9) (.c (.int .u8 128))⟩,
      ⟨some 11, none, .bslice 1 [.t 10]⟩,
      ⟨some 12, none, .app 0 5 1 1 (.t 6) (.t 11)⟩,
      ⟨some 3, none, .mov (.t 12)⟩])
    (.region [⟨some 13, none, .mov (.t 0)⟩,
      ⟨some 14, none, .bin false .quo (.t 13) (.c (.int .u64 128))⟩,
      ⟨some 0, none, .mov (.t 14)⟩]))))))
    (.seq (.region [⟨some 15, none, .mov (.t 3)⟩,
      ⟨some 16, none, .mov (.t 0)⟩,
      ⟨some 17, none, .conv .u8 (.t 16)⟩,
      ⟨some 18, none, .bslice 1 [.t 17]⟩,
      ⟨some 19, none, .app 0 5 1 1 (.t 15) (.t 18)⟩,
      ⟨some 2, none, .mov (.t 19)⟩])
    .ret)))), [.tmp 2]⟩
theorem T_cartoucheref1_PutVarint : trFn Try.prog [] Try.f31 = some A_cartoucheref1_PutVarint := by kernel_rfl
theorem L_cartoucheref1_PutVarint : 1 ≤ Try.f31.ntmps := by decide

def A_cartoucheref1_PutWord : AFn := ⟨(.seq (.region [⟨some 4, none, .mov (.c (.nil))⟩])
    (.seq (.region [⟨some 5, none, .mov (.c (.nil))⟩])
    (.seq (.seq (.region [⟨some 6, none, .mov (.c (.int .i64 0))⟩])
    (.block 0 (.loop (.seq (.seq (.region [⟨some 7, none, .mov (.t 6)⟩,
      ⟨some 8, none, .mov (.t 1)⟩,
      ⟨some 9, none, .bin false .lss (.t 7) (.t 8)⟩])
    (.cond (.t 9) .skip
    (.exit 0)))
    (.seq (.block 1 (.region [⟨some 12, none, .mov (.t 5)⟩,
      ⟨some 13, none, .mov (.t 0)⟩,
      ⟨some 14, none, .mov (.t 6)⟩,
      ⟨some 15, none, .bin false .mul (.c (.int .i64 8)) (.t 14)⟩,
      ⟨some 16, none, .conv .u64 (.t 15)⟩,
      ⟨some 17, none, .bin false .shr (.t 13) (.t 16)⟩,
      ⟨some 18, none, .conv .u8 (.t 17)⟩,
      ⟨some 19, none, .bslice 1 [.t 18]⟩,
      ⟨some 20, none, .app 0 5 1 1 (.t 12) (.t 19)⟩,
      ⟨some 5, none, .mov (.t 20)⟩]))
    (.region [⟨some 10, none, .mov (.t 6)⟩,
      ⟨some 11, none, .bin false .add (.t 10) (.c (.int .i64 1))⟩,
      ⟨some 6, none, .mov (.t 11)⟩]))))))
    (.seq (.region [⟨some 21, none, .mov (.t 5)⟩,
      ⟨some 4, none, .mov (.t 21)⟩])
    .ret)))), [.tmp 4]⟩
theorem T_cartoucheref1_PutWord : trFn Try.prog [] Try.f32 = some A_cartoucheref1_PutWord := by kernel_rfl
theorem L_cartoucheref1_PutWord : 2 ≤ Try.f32.ntmps := by decide

def A_cartoucheref1_GetVarint : AFn := ⟨(.seq (.region [⟨some 4, none, .mov (.c (.int .u64 0))⟩,
      ⟨some 5, none, .mov (.c (.int .i64 0))⟩,
      ⟨some 6, none, .mov (.c (.int .i64 0))⟩])
    (.seq (.region [⟨some 7, none, .mov (.c (.int .u64 0))⟩])
    (.seq (.region [⟨some 8, none, .mov (.c (.int .i64 0))⟩])
    (.block 0 (.loop (.seq (.block 1 (.seq (.seq (.region [⟨some 12, none, .mov (.t 1)⟩,
      ⟨some 13, none, .mov (.t 8)⟩,
      ⟨some 14, none, .bin false .add (.t 12) (.t 13)⟩,
      ⟨some 15, none, .mov (.t 0)⟩,
      ⟨some 16, none, .len false (.t 15)⟩,
      ⟨some 17, none, .bin false .geq (.t 14) (.t 16)⟩])
    (.cond (.t 17) (.seq (.region [⟨some 4, none, .mov (.c (.int .u64 0))⟩,
      ⟨some 5, none, .mov (.c (.int .i64 0))⟩,
      ⟨some 6, none, .mov (.c (.int .i64 3))⟩])
    .ret)
    .skip))
    (.seq (.region [⟨some 18, none, .mov (.t 0)⟩,
      ⟨some 19, none, .mov (.t 1)⟩,
      ⟨some 20, none, .mov (.t 8)⟩,
      ⟨some 21, none, .bin false .add (.t 19) (.t 20)⟩,
      ⟨some 22, none, .idxA 1 (.t 18) (.t 21)⟩,
      ⟨some 23, none, .load 1 false (.t 22)⟩,
      ⟨some 9, none, .mov (.t 23)⟩])
    (.seq (.seq (.region [⟨some 24, none, .mov (.t 8)⟩,
      ⟨some 25, none, .bin false .eql (.t 24) (.c (.int .i64 9))⟩,
      ⟨some 26, none, .mov (.t 25)⟩,
      ⟨some 27, some (26, true), .mov (.t 9)⟩,
      ⟨some 28, some (26, true), .bin false .gtr (.t 27) (.c (.int .u8 1))⟩,
      ⟨some 29, none, .pickb (.t 26) (.t 28) (.c (.bool false))⟩])
    (.cond (.t 29) (.seq (.region [⟨some 4, none, .mov (.c (.int .u64 0))⟩,
      ⟨some 5, none, .mov (.c (.int .i64 0))⟩,
      ⟨some 6, none, .mov (.c (.int .i64 4))⟩])
    .ret)
    .skip))
    (.seq (.region [⟨some 30, none, .mov (.t 7)⟩,
      ⟨some 31, none, .mov (.t 9)⟩,
      ⟨some 32, none, .bin false .rem (.t 31) (.c (.int .u8 128))⟩,
      ⟨some 33, none, .conv .u64 (.t 32)⟩,
      ⟨some 34, none, .mov (.t 8)⟩,
      ⟨some 35, none, .bin false .mul (.c (.int .i64 7)) (.t 34)⟩,
      ⟨some 36, none, .conv .u64 (.t 35)⟩,
      ⟨some 37, none, .bin false .shl (.t 33) (.t 36)⟩,
      ⟨some 38, none, .bin false .or (.t 30) (.t 37)⟩,
      ⟨some 7, none, .mov (.t 38)⟩])
    (.seq (.region [⟨some 39, none, .mov (.t 9)⟩,
      ⟨some 40, none, .bin false .lss (.t 39) (.c (.int .u8 128))⟩])
    (.cond (.t 40) (.seq (.region [⟨some 41, none, .mov (.t 7)⟩,
      ⟨some 42, none, .mov (.t 1)⟩,
      ⟨some 43, none, .mov (.t 8)⟩,
      ⟨some 44, none, .bin false .add (.t 42) (.t 43)⟩,
      ⟨some 45, none, .bin false .add (.t 44) (.c (.int .i64 1))⟩,
      ⟨some 4, none, .mov (.t 41)⟩,
      ⟨some 5, none, .mov (.t 45)⟩,
      ⟨some 6, none, .mov (.c (.int .i64 0))⟩])
    .ret)
    .skip)))))))
    (.region [⟨some 10, none, .mov (.t 8)⟩,
      ⟨some 11, none, .bin false .add (.t 10) (.c (.int .i64 1))⟩,
      ⟨some 8, none, .mov (.t 11)⟩]))))))), [.tmp 4, .tmp 5, .tmp 6]⟩
theorem T_cartoucheref1_GetVarint : trFn Try.prog [] Try.f33 = some A_cartoucheref1_GetVarint := by kernel_rfl
theorem L_cartoucheref1_GetVarint : 2 ≤ Try.f33.ntmps := by decide

def A_bits_Len64 : AFn := ⟨(.seq (.region [⟨some 2, none, .mov (.c (.int .i64 0))⟩])
    (.seq (.seq (.region [⟨some 3, none, .mov (.t 0)⟩,
      ⟨some 4, none, .bin false .geq (.t 3) (.c (.int .u64 4294967296))⟩])
    (.cond (.t 4) (.seq (.region [⟨some 5, none, .mov (.t 0)⟩,
      ⟨some 6, none, .bin false .shr (.t 5) (.c (.int .u64 32))⟩,
      ⟨some 0, none, .mov (.t 6)⟩])
    (.region [⟨some 2, none, .mov (.c (.int .i64 32))⟩]))
    .skip))
    (.seq (.seq (.region [⟨some 7, none, .mov (.t 0)⟩,
      ⟨some 8, none, .bin false .geq (.t 7) (.c (.int .u64 65536))⟩])
    (.cond (.t 8) (.seq (.region [⟨some 9, none, .mov (.t 0)⟩,
      ⟨some 10, none, .bin false .shr (.t 9) (.c (.int .u64 16))⟩,
      ⟨some 0, none, .mov (.t 10)⟩])
    (.region [⟨some 11, none, .mov (.t 2)⟩,
      ⟨some 12, none, .bin false .add (.t 11) (.c (.int .i64 16))⟩,
      ⟨some 2, none, .mov (.t 12)⟩]))
    .skip))
    (.seq (.seq (.region [⟨some 13, none, .mov (.t 0)⟩,
      ⟨some 14, none, .bin false .geq (.t 13) (.c (.int .u64 256))⟩])
    (.cond (.t 14) (.seq (.region [⟨some 15, none, .mov (.t 0)⟩,
      ⟨some 16, none, .bin false .shr (.t 15) (.c (.int .u64 8))⟩,
      ⟨some 0, none, .mov (.t 16)⟩])
    (.region [⟨some 17, none, .mov (.t 2)⟩,
      ⟨some 18, none, .bin false .add (.t 17) (.c (.int .i64 8))⟩,
      ⟨some 2, none, .mov (.t 18)⟩]))
    .skip))
    (.seq (.region [⟨some 19, none, .mov (.t 2)⟩,
      ⟨some 20, none, .mov (.t 0)⟩,
      ⟨some 21, none, .conv .u8 (.t 20)⟩,
      ⟨some 22, none, .idxS (.c (.str ⟨#[0, 1, 2, 2, 3, 3, 3, 3, 4, 4, 4, 4, 4, 4, 4, 4, 5, 5, 5, 5, 5, 5, 5, 5, 5, 5, 5, 5, 5, 5, 5, 5, 6, 6, 6, 6, 6, 6, 6, 6, 6, 6, 6, 6, 6, 6, 6, 6, 6, 6, 6, 6, 6, 6, 6, 6, 6, 6, 6, 6, 6, 6, 6, 6, 7, 7, 7, 7, 7, 7, 7, 7, 7, 7, 7, 7, 7, 7, 7, 7, 7, 7, 7, 7, 7, 7, 7, 7, 7, 7, 7, 7, 7, 7, 7, 7, 7, 7, 7, 7, 7, 7, 7, 7, 7, 7, 7, 7, 7, 7, 7, 7, 7, 7, 7, 7, 7, 7, 7, 7, 7, 7, 7, 7, 7, 7, 7, 7, 8, 8, 8, 8, 8, 8, 8, 8, 8, 8, 8, 8, 8, 8, 8, 8, 8, 8, 8, 8, 8, 8, 8, 8, 8, 8, 8, 8, 8, 8, 8, 8, 8, 8, 8, 8, 8, 8, 8, 8, 8, 8, 8, 8, 8, 8, 8, 8, 8, 8, 8, 8, 8, 8, 8, 8, 8, 8, 8, 8, 8, 8, 8, 8, 8, 8, 8, 8, 8, 8, 8, 8, 8, 8, 8, 8, 8, 8, 8, 8, 8, 8, 8, 8, 8, 8, 8, 8, 8, 8, 8, 8, 8, 8, 8, 8, 8, 8, 8, 8, 8, 8, 8, 8, 8, 8, 8, 8, 8, 8, 8, 8, 8, 8, 8, 8, 8, 8, 8, 8, 8, 8, 8, 8, 8, 8, 8, 8]⟩)) (.t 21)⟩,
      ⟨some 23, none, .conv .i64 (.t 22)⟩,
      ⟨some 24, none, .bin false .add (.t 19) (.t 23)⟩,
      ⟨some 2, none, .mov (.t 24)⟩])
    .ret))))), [.tmp 2]⟩
theorem T_bits_Len64 : trFn Try.prog [] Try.f34 = some A_bits_Len64 := by kernel_rfl
theorem L_bits_Len64 : 1 ≤ Try.f34.ntmps := by decide

def A_wire_place : AFn := ⟨(.seq (.region [⟨some 4, none, .mov (.c (.bool false))⟩])
    (.seq (.region [⟨some 5, none, .mov (.t 1)⟩,
      ⟨some 6, none, .bin false .geq (.t 5) (.c (.int .i64 0))⟩,
      ⟨some 7, none, .mov (.t 6)⟩,
      ⟨some 8, some (7, true), .mov (.t 1)⟩,
      ⟨some 9, some (7, true), .mov (.t 0)⟩,
      ⟨some 10, some (7, true), .len false (.t 9)⟩,
      ⟨some 11, some (7, true), .bin false .leq (.t 8) (.t 10)⟩,
      ⟨some 12, none, .pickb (.t 7) (.t 11) (.c (.bool false))⟩,
      ⟨some 4, none, .mov (.t 12)⟩])
    .ret)), [.tmp 4]⟩
theorem T_wire_place : trFn Try.prog [] Try.f35 = some A_wire_place := by kernel_rfl
theorem L_wire_place : 2 ≤ Try.f35.ntmps := by decide

def A_wire_read : AFn := ⟨(.seq (.region [⟨some 6, none, .mov (.c (.int .u64 0))⟩,
      ⟨some 7, none, .mov (.c (.int .i64 0))⟩,
      ⟨some 8, none, .mov (.c (.int .i64 0))⟩])
    (.seq (.block 0 (.seq (.region [⟨some 11, none, .mov (.t 0)⟩,
      ⟨some 12, none, .mov (.t 1)⟩,
      ⟨some 13, none, .call i_wire_place [.t 11, .t 12]⟩,
      ⟨some 14, none, .un .not (.t 13)⟩,
      ⟨some 10, none, .mov (.t 14)⟩])
    (.cond (.t 10) (.seq (.region [⟨some 6, none, .mov (.c (.int .u64 0))⟩,
      ⟨some 7, none, .mov (.c (.int .i64 0))⟩,
      ⟨some 8, none, .mov (.c (.int .i64 18))⟩])
    .ret)
    (.seq (.region [⟨some 16, none, .mov (.t 0)⟩,
      ⟨some 17, none, .len false (.t 16)⟩,
      ⟨some 18, none, .mov (.t 1)⟩,
      ⟨some 19, none, .bin false .sub (.t 17) (.t 18)⟩,
      ⟨some 20, none, .mov (.t 2)⟩,
      ⟨some 21, none, .bin false .lss (.t 19) (.t 20)⟩,
      ⟨some 15, none, .mov (.t 21)⟩])
    (.cond (.t 15) (.seq (.region [⟨some 6, none, .mov (.c (.int .u64 0))⟩,
      ⟨some 7, none, .mov (.c (.int .i64 0))⟩,
      ⟨some 8, none, .mov (.c (.int .i64 3))⟩])
    .ret)
    .skip)))))
    (.seq (.seq (.region [⟨some 22, none, .mov (.t 2)⟩,
      ⟨some 23, none, .mov (.c (.int .i64 0))⟩])
    (.block 1 (.loop (.seq (.region [⟨some 24, none, .bin false .lss (.t 23) (.t 22)⟩])
    (.seq (.cond (.t 24) .skip
    (.exit 1))
    (.seq (.block 2 (.seq (.region [⟨some 25, none, .mov (.t 23)⟩,
      ⟨some 9, none, .mov (.t 25)⟩])
    (.region [⟨some 26, none, .mov (.t 6)⟩,
      ⟨some 27, none, .mov (.t 0)⟩,
      ⟨some 28, none, .mov (.t 1)⟩,
      ⟨some 29, none, .mov (.t 9)⟩,
      ⟨some 30, none, .bin false .add (.t 28) (.t 29)⟩,
      ⟨some 31, none, .idxA 1 (.t 27) (.t 30)⟩,
      ⟨some 32, none, .load 1 false (.t 31)⟩,
      ⟨some 33, none, .conv .u64 (.t 32)⟩,
      ⟨some 34, none, .mov (.t 9)⟩,
      ⟨some 35, none, .bin false .mul (.c (.int .i64 8)) (.t 34)⟩,
      ⟨some 36, none, .bin false .shl (.t 33) (.t 35)⟩,
      ⟨some 37, none, .bin false .or (.t 26) (.t 36)⟩,
      ⟨some 6, none, .mov (.t 37)⟩])))
    (.region [⟨some 38, none, .bin false .add (.t 23) (.c (.int .i64 1))⟩,
      ⟨some 23, none, .mov (.t 38)⟩])))))))
    (.seq (.region [⟨some 39, none, .mov (.t 6)⟩,
      ⟨some 40, none, .mov (.t 1)⟩,
      ⟨some 41, none, .mov (.t 2)⟩,
      ⟨some 42, none, .bin false .add (.t 40) (.t 41)⟩,
      ⟨some 6, none, .mov (.t 39)⟩,
      ⟨some 7, none, .mov (.t 42)⟩,
      ⟨some 8, none, .mov (.c (.int .i64 0))⟩])
    .ret)))), [.tmp 6, .tmp 7, .tmp 8]⟩
theorem T_wire_read : trFn Try.prog [] Try.f36 = some A_wire_read := by kernel_rfl
theorem L_wire_read : 3 ≤ Try.f36.ntmps := by decide

end Go.Proofs.Ytinoaofgbkdohaa.Ag
