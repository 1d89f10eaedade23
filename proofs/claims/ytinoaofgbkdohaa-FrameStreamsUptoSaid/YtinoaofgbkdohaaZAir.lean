/- The frames' functions as the walk has them. -/
import Derived.Test.YtinoaofgbkdohaaZAirW
namespace Go.Proofs.Ytinoaofgbkdohaa.Ag
set_option maxRecDepth 100000
abbrev i_frame_Write : FuncId := 6
theorem F_frame_Write : Try.prog.funcs[i_frame_Write]? = some Try.f6 := Try.func6
abbrev i_frame_Read : FuncId := 7
theorem F_frame_Read : Try.prog.funcs[i_frame_Read]? = some Try.f7 := Try.func7
abbrev i_frame_Salvage : FuncId := 8
theorem F_frame_Salvage : Try.prog.funcs[i_frame_Salvage]? = some Try.f8 := Try.func8
abbrev i_cartoucheref23_Write : FuncId := 9
theorem F_cartoucheref23_Write : Try.prog.funcs[i_cartoucheref23_Write]? = some Try.f9 := Try.func9
abbrev i_cartouchelaw23_awake : FuncId := 10
theorem F_cartouchelaw23_awake : Try.prog.funcs[i_cartouchelaw23_awake]? = some Try.f10 := Try.func10
abbrev i_frame_Sum : FuncId := 11
theorem F_frame_Sum : Try.prog.funcs[i_frame_Sum]? = some Try.f11 := Try.func11
abbrev i_cartoucheref23_Sum : FuncId := 12
theorem F_cartoucheref23_Sum : Try.prog.funcs[i_cartoucheref23_Sum]? = some Try.f12 := Try.func12
abbrev i_cartoucheref23_Read : FuncId := 13
theorem F_cartoucheref23_Read : Try.prog.funcs[i_cartoucheref23_Read]? = some Try.f13 := Try.func13
abbrev i_cartoucheref23_Salvage : FuncId := 14
theorem F_cartoucheref23_Salvage : Try.prog.funcs[i_cartoucheref23_Salvage]? = some Try.f14 := Try.func14
abbrev i_frame_sum : FuncId := 19
theorem F_frame_sum : Try.prog.funcs[i_frame_sum]? = some Try.f19 := Try.func19
abbrev i_frame_stands : FuncId := 20
theorem F_frame_stands : Try.prog.funcs[i_frame_stands]? = some Try.f20 := Try.func20
abbrev i_frame_frames : FuncId := 21
theorem F_frame_frames : Try.prog.funcs[i_frame_frames]? = some Try.f21 := Try.func21
abbrev i_cartoucheref23_Frame : FuncId := 22
theorem F_cartoucheref23_Frame : Try.prog.funcs[i_cartoucheref23_Frame]? = some Try.f22 := Try.func22
abbrev i_cartoucheref23_At : FuncId := 23
theorem F_cartoucheref23_At : Try.prog.funcs[i_cartoucheref23_At]? = some Try.f23 := Try.func23

def A_frame_Write : AFn := ⟨(.seq (.region [⟨some 2, none, .mov (.c (.nil))⟩,
      ⟨some 3, none, .mov (.c (.int .i64 0))⟩])
    (.seq (.region [⟨some 4, none, .mov (.c (.nil))⟩])
    (.seq (.seq (.region [⟨some 8, none, .mov (.t 0)⟩,
      ⟨some 9, none, .len false (.t 8)⟩,
      ⟨some 10, none, .mov (.c (.int .i64 0))⟩])
    (.block 0 (.loop (.seq (.region [⟨some 11, none, .bin false .lss (.t 10) (.t 9)⟩])
    (.seq (.cond (.t 11) .skip
    (.exit 0))
    (.seq (.block 1 (.seq (.region [⟨some 12, none, .idxA 1 (.t 8) (.t 10)⟩,
      ⟨some 13, none, .load 1 false (.t 12)⟩,
      ⟨some 6, none, .mov (.t 13)⟩])
    (.seq (.seq (.region [⟨some 14, none, .mov (.t 6)⟩,
      ⟨some 15, none, .len false (.t 14)⟩,
      ⟨some 16, none, .bin false .gtr (.t 15) (.c (.int .i64 65536))⟩])
    (.cond (.t 16) (.seq (.region [⟨some 2, none, .mov (.c (.nil))⟩,
      ⟨some 3, none, .mov (.c (.int .i64 1))⟩])
    .ret)
    .skip))
    (.seq (.region [⟨some 17, none, .mov (.t 6)⟩,
      ⟨some 18, none, .len false (.t 17)⟩,
      ⟨some 19, none, .conv .u64 (.t 18)⟩,
      ⟨some 20, none, .call i_wire_PutVarint [.t 19]⟩,
      ⟨some 7, none, .mov (.t 20)⟩])
    (.seq (.region [⟨some 21, none, .mov (.t 4)⟩,
      ⟨some 22, none, .bslice 1 [.c (.int .u8 126)]⟩,
      ⟨some 23, none, .app 0 5 1 1 (.t 21) (.t 22)⟩,
      ⟨some 24, none, .mov (.t 7)⟩,
      ⟨some 25, none, .app 0 5 1 1 (.t 23) (.t 24)⟩,
      ⟨some 4, none, .mov (.t 25)⟩])
    (.region [⟨some 26, none, .mov (.t 4)⟩,
      ⟨some 27, none, .mov (.t 7)⟩,
      ⟨some 28, none, .call i_frame_Sum [.t 27]⟩,
      ⟨some 29, none, .mov (.t 6)⟩,
      ⟨some 30, none, .call i_frame_sum [.t 28, .t 29]⟩,
      ⟨some 31, none, .call i_wire_PutFix32 [.t 30]⟩,
      ⟨some 32, none, .app 0 5 1 1 (.t 26) (.t 31)⟩,
      ⟨some 33, none, .mov (.t 6)⟩,
      ⟨some 34, none, .app 0 5 1 1 (.t 32) (.t 33)⟩,
      ⟨some 4, none, .mov (.t 34)⟩]))))))
    (.region [⟨some 35, none, .bin false .add (.t 10) (.c (.int .i64 1))⟩,
      ⟨some 10, none, .mov (.t 35)⟩])))))))
    (.seq (.region [⟨some 36, none, .mov (.t 4)⟩,
      ⟨some 37, none, .len false (.t 36)⟩,
      ⟨some 38, none, .mks 1 5 1 1 (.int .u8 0) (.c (.int .i64 0)) (.t 37)⟩,
      ⟨some 39, none, .mov (.t 4)⟩,
      ⟨some 40, none, .app 1 5 1 1 (.t 38) (.t 39)⟩,
      ⟨some 2, none, .mov (.t 40)⟩,
      ⟨some 3, none, .mov (.c (.int .i64 0))⟩])
    .ret)))), [.tmp 2, .tmp 3]⟩
theorem T_frame_Write : trFn Try.prog [(11, [0, 0, 1, 0, 1, 0, 0])] Try.f6 = some A_frame_Write := by kernel_rfl
theorem L_frame_Write : 1 ≤ Try.f6.ntmps := by decide

def A_frame_Read : AFn := ⟨(.seq (.region [⟨some 2, none, .mov (.c (.nil))⟩,
      ⟨some 3, none, .mov (.c (.int .i64 0))⟩])
    (.seq (.region [⟨some 4, none, .mov (.c (.nil))⟩])
    (.seq (.seq (.region [⟨some 5, none, .mov (.c (.int .i64 0))⟩])
    (.block 0 (.loop (.seq (.seq (.region [⟨some 9, none, .mov (.t 5)⟩,
      ⟨some 10, none, .mov (.t 0)⟩,
      ⟨some 11, none, .len false (.t 10)⟩,
      ⟨some 12, none, .bin false .lss (.t 9) (.t 11)⟩])
    (.cond (.t 12) .skip
    (.exit 0)))
    (.block 1 (.seq (.region [⟨some 14, none, .mov (.t 0)⟩,
      ⟨some 15, none, .mov (.t 5)⟩,
      ⟨some 16, none, .call i_frame_stands [.t 14, .t 15]⟩,
      ⟨some 13, none, .mov (.t 16)⟩,
      ⟨some 17, none, .ext 0 (.t 13)⟩,
      ⟨some 18, none, .ext 1 (.t 13)⟩,
      ⟨some 19, none, .ext 2 (.t 13)⟩,
      ⟨some 6, none, .mov (.t 17)⟩,
      ⟨some 7, none, .mov (.t 18)⟩,
      ⟨some 8, none, .mov (.t 19)⟩])
    (.seq (.seq (.region [⟨some 20, none, .mov (.t 8)⟩,
      ⟨some 21, none, .un .not (.t 20)⟩])
    (.cond (.t 21) (.seq (.region [⟨some 2, none, .mov (.c (.nil))⟩,
      ⟨some 3, none, .mov (.c (.int .i64 11))⟩])
    .ret)
    .skip))
    (.seq (.draw [4, 9, 10, 11] [⟨some 22, none, .mov (.t 4)⟩,
      ⟨some 23, none, .mov (.t 7)⟩,
      ⟨some 24, none, .mov (.t 6)⟩,
      ⟨some 25, none, .bin false .sub (.t 23) (.t 24)⟩,
      ⟨some 26, none, .mks 0 5 1 1 (.int .u8 0) (.c (.int .i64 0)) (.t 25)⟩,
      ⟨some 27, none, .mov (.t 0)⟩,
      ⟨some 28, none, .mov (.t 6)⟩,
      ⟨some 29, none, .mov (.t 7)⟩,
      ⟨some 30, none, .slc 1 (.t 27) (some (.t 28)) (some (.t 29)) none⟩,
      ⟨some 31, none, .app 0 5 1 1 (.t 26) (.t 30)⟩,
      ⟨some 32, none, .bslice 1 [.t 31]⟩,
      ⟨some 33, none, .app 1 23 1 24 (.t 22) (.t 32)⟩,
      ⟨some 4, none, .mov (.t 33)⟩])
    (.region [⟨some 34, none, .mov (.t 7)⟩,
      ⟨some 5, none, .mov (.t 34)⟩])))))))))
    (.seq (.region [⟨some 35, none, .mov (.t 4)⟩,
      ⟨some 36, none, .len false (.t 35)⟩,
      ⟨some 37, none, .mks 2 23 1 24 (.nil) (.c (.int .i64 0)) (.t 36)⟩,
      ⟨some 38, none, .mov (.t 4)⟩,
      ⟨some 39, none, .app 2 23 1 24 (.t 37) (.t 38)⟩,
      ⟨some 2, none, .mov (.t 39)⟩,
      ⟨some 3, none, .mov (.c (.int .i64 0))⟩])
    .ret)))), [.tmp 2, .tmp 3]⟩
theorem T_frame_Read : trFn Try.prog [(7, [0, 0, 0, 0, 0, 0, 0, 0, 0, 0, 0, 1, 0]), (9, [0, 0, 2, 0, 2, 0, 0]), (1000007, [4, 9, 10, 11])] Try.f7 = some A_frame_Read := by kernel_rfl
theorem L_frame_Read : 1 ≤ Try.f7.ntmps := by decide

-- NOT 8 cartouche/frame.Salvage: code rangeFunc
def A_cartoucheref23_Write : AFn := ⟨(.seq (.region [⟨some 2, none, .mov (.c (.nil))⟩,
      ⟨some 3, none, .mov (.c (.bool false))⟩])
    (.seq (.region [⟨some 4, none, .mov (.c (.nil))⟩])
    (.seq (.seq (.region [⟨some 5, none, .mov (.c (.int .i64 0))⟩])
    (.block 0 (.loop (.seq (.seq (.region [⟨some 6, none, .mov (.t 5)⟩,
      ⟨some 7, none, .mov (.t 0)⟩,
      ⟨some 8, none, .len false (.t 7)⟩,
      ⟨some 9, none, .bin false .lss (.t 6) (.t 8)⟩])
    (.cond (.t 9) .skip
    (.exit 0)))
    (.seq (.block 1 (.seq (.seq (.region [⟨some 12, none, .mov (.t 0)⟩,
      ⟨some 13, none, .mov (.t 5)⟩,
      ⟨some 14, none, .idxA 1 (.t 12) (.t 13)⟩,
      ⟨some 15, none, .load 1 false (.t 14)⟩,
      ⟨some 16, none, .len false (.t 15)⟩,
      ⟨some 17, none, .bin false .gtr (.t 16) (.c (.int .i64 65536))⟩])
    (.cond (.t 17) (.seq (.region [⟨some 2, none, .mov (.c (.nil))⟩,
      ⟨some 3, none, .mov (.c (.bool false))⟩])
    .ret)
    .skip))
    (.region [⟨some 18, none, .mov (.t 4)⟩,
      ⟨some 19, none, .mov (.t 0)⟩,
      ⟨some 20, none, .mov (.t 5)⟩,
      ⟨some 21, none, .idxA 1 (.t 19) (.t 20)⟩,
      ⟨some 22, none, .load 1 false (.t 21)⟩,
      ⟨some 23, none, .call i_cartoucheref23_Frame [.t 22]⟩,
      ⟨some 24, none, .app 0 5 1 1 (.t 18) (.t 23)⟩,
      ⟨some 4, none, .mov (.t 24)⟩])))
    (.region [⟨some 10, none, .mov (.t 5)⟩,
      ⟨some 11, none, .bin false .add (.t 10) (.c (.int .i64 1))⟩,
      ⟨some 5, none, .mov (.t 11)⟩]))))))
    (.seq (.region [⟨some 25, none, .mov (.t 4)⟩,
      ⟨some 2, none, .mov (.t 25)⟩,
      ⟨some 3, none, .mov (.c (.bool true))⟩])
    .ret)))), [.tmp 2, .tmp 3]⟩
theorem T_cartoucheref23_Write : trFn Try.prog [] Try.f9 = some A_cartoucheref23_Write := by kernel_rfl
theorem L_cartoucheref23_Write : 1 ≤ Try.f9.ntmps := by decide

def A_cartouchelaw23_awake : AFn := ⟨(.seq (.region [⟨some 0, none, .mov (.c (.bool false))⟩])
    (.seq (.region [⟨some 6, none, .bslice 1 [.c (.int .u8 97)]⟩,
      ⟨some 7, none, .bslice 1 [.t 6]⟩,
      ⟨some 8, none, .call i_frame_Write [.t 7]⟩,
      ⟨some 5, none, .mov (.t 8)⟩,
      ⟨some 9, none, .ext 0 (.t 5)⟩,
      ⟨some 10, none, .ext 1 (.t 5)⟩,
      ⟨some 1, none, .mov (.t 9)⟩,
      ⟨some 2, none, .mov (.t 10)⟩])
    (.seq (.region [⟨some 12, none, .mov (.t 1)⟩,
      ⟨some 13, none, .call i_frame_Read [.t 12]⟩,
      ⟨some 11, none, .mov (.t 13)⟩,
      ⟨some 14, none, .ext 0 (.t 11)⟩,
      ⟨some 15, none, .ext 1 (.t 11)⟩,
      ⟨some 3, none, .mov (.t 14)⟩,
      ⟨some 4, none, .mov (.t 15)⟩])
    (.seq (.draw [] [⟨some 16, none, .bslice 1 [.c (.int .u8 97)]⟩,
      ⟨some 17, none, .call i_frame_Sum [.t 16]⟩,
      ⟨some 18, none, .bin false .eql (.t 17) (.c (.int .u32 3826002220))⟩,
      ⟨some 19, none, .mov (.t 18)⟩,
      ⟨some 20, some (19, true), .mov (.t 2)⟩,
      ⟨some 21, some (19, true), .bin false .eql (.t 20) (.c (.int .i64 0))⟩,
      ⟨some 22, none, .pickb (.t 19) (.t 21) (.c (.bool false))⟩,
      ⟨some 23, none, .mov (.t 22)⟩,
      ⟨some 24, some (23, true), .mov (.t 1)⟩,
      ⟨some 25, some (23, true), .b2s (.t 24)⟩,
      ⟨some 26, some (23, true), .bslice 1 [.c (.int .u8 97)]⟩,
      ⟨some 27, some (23, true), .call i_cartoucheref23_Frame [.t 26]⟩,
      ⟨some 28, some (23, true), .b2s (.t 27)⟩,
      ⟨some 29, some (23, true), .bin false .eql (.t 25) (.t 28)⟩,
      ⟨some 30, none, .pickb (.t 23) (.t 29) (.c (.bool false))⟩,
      ⟨some 31, none, .mov (.t 30)⟩,
      ⟨some 32, some (31, true), .mov (.t 4)⟩,
      ⟨some 33, some (31, true), .bin false .eql (.t 32) (.c (.int .i64 0))⟩,
      ⟨some 34, none, .pickb (.t 31) (.t 33) (.c (.bool false))⟩,
      ⟨some 35, none, .mov (.t 34)⟩,
      ⟨some 36, some (35, true), .mov (.t 3)⟩,
      ⟨some 37, some (35, true), .bslice 1 [.c (.int .u8 97)]⟩,
      ⟨some 38, some (35, true), .bslice 1 [.t 37]⟩,
      ⟨some 39, some (35, true), .call i_cartouchelaw23_lists [.t 36, .t 38]⟩,
      ⟨some 40, none, .pickb (.t 35) (.t 39) (.c (.bool false))⟩,
      ⟨some 0, none, .mov (.t 40)⟩])
    .ret)))), [.tmp 0]⟩
theorem T_cartouchelaw23_awake : trFn Try.prog [] Try.f10 = some A_cartouchelaw23_awake := by kernel_rfl
theorem L_cartouchelaw23_awake : 0 ≤ Try.f10.ntmps := by decide

def A_frame_Sum : AFn := ⟨(.seq (.region [⟨some 2, none, .mov (.c (.int .u32 0))⟩])
    (.seq (.region [⟨some 3, none, .mov (.t 0)⟩,
      ⟨some 4, none, .call i_frame_sum [.c (.int .u32 2166136261), .t 3]⟩,
      ⟨some 2, none, .mov (.t 4)⟩])
    .ret)), [.tmp 2]⟩
theorem T_frame_Sum : trFn Try.prog [] Try.f11 = some A_frame_Sum := by kernel_rfl
theorem L_frame_Sum : 1 ≤ Try.f11.ntmps := by decide

def A_cartoucheref23_Sum : AFn := ⟨(.seq (.region [⟨some 2, none, .mov (.c (.int .u32 0))⟩])
    (.seq (.region [⟨some 3, none, .mov (.c (.int .u32 2166136261))⟩])
    (.seq (.seq (.region [⟨some 4, none, .mov (.c (.int .i64 0))⟩])
    (.block 0 (.loop (.seq (.seq (.region [⟨some 5, none, .mov (.t 4)⟩,
      ⟨some 6, none, .mov (.t 0)⟩,
      ⟨some 7, none, .len false (.t 6)⟩,
      ⟨some 8, none, .bin false .lss (.t 5) (.t 7)⟩])
    (.cond (.t 8) .skip
    (.exit 0)))
    (.seq (.block 1 (.region [⟨some 11, none, .mov (.t 3)⟩,
      ⟨some 12, none, .mov (.t 0)⟩,
      ⟨some 13, none, .mov (.t 4)⟩,
      ⟨some 14, none, .idxA 1 (.t 12) (.t 13)⟩,
      ⟨some 15, none, .load 1 false (.t 14)⟩,
      ⟨some 16, none, .conv .u32 (.t 15)⟩,
      ⟨some 17, none, .bin false .xor (.t 11) (.t 16)⟩,
      ⟨some 18, none, .bin false .mul (.t 17) (.c (.int .u32 16777619))⟩,
      ⟨some 3, none, .mov (.t 18)⟩]))
    (.region [⟨some 9, none, .mov (.t 4)⟩,
      ⟨some 10, none, .bin false .add (.t 9) (.c (.int .i64 1))⟩,
      ⟨some 4, none, .mov (.t 10)⟩]))))))
    (.seq (.region [⟨some 19, none, .mov (.t 3)⟩,
      ⟨some 2, none, .mov (.t 19)⟩])
    .ret)))), [.tmp 2]⟩
theorem T_cartoucheref23_Sum : trFn Try.prog [] Try.f12 = some A_cartoucheref23_Sum := by kernel_rfl
theorem L_cartoucheref23_Sum : 1 ≤ Try.f12.ntmps := by decide

def A_cartoucheref23_Read : AFn := ⟨(.seq (.region [⟨some 2, none, .mov (.c (.nil))⟩,
      ⟨some 3, none, .mov (.c (.bool false))⟩])
    (.seq (.region [⟨some 4, none, .mov (.c (.nil))⟩])
    (.seq (.seq (.region [⟨some 5, none, .mov (.c (.int .i64 0))⟩])
    (.block 0 (.loop (.seq (.seq (.region [⟨some 9, none, .mov (.t 5)⟩,
      ⟨some 10, none, .mov (.t 0)⟩,
      ⟨some 11, none, .len false (.t 10)⟩,
      ⟨some 12, none, .bin false .lss (.t 9) (.t 11)⟩])
    (.cond (.t 12) .skip
    (.exit 0)))
    (.block 1 (.seq (.region [⟨some 14, none, .mov (.t 0)⟩,
      ⟨some 15, none, .mov (.t 5)⟩,
      ⟨some 16, none, .call i_cartoucheref23_At [.t 14, .t 15]⟩,
      ⟨some 13, none, .mov (.t 16)⟩,
      ⟨some 17, none, .ext 0 (.t 13)⟩,
      ⟨some 18, none, .ext 1 (.t 13)⟩,
      ⟨some 19, none, .ext 2 (.t 13)⟩,
      ⟨some 6, none, .mov (.t 17)⟩,
      ⟨some 7, none, .mov (.t 18)⟩,
      ⟨some 8, none, .mov (.t 19)⟩])
    (.seq (.seq (.region [⟨some 20, none, .mov (.t 8)⟩,
      ⟨some 21, none, .un .not (.t 20)⟩])
    (.cond (.t 21) (.seq (.region [⟨some 2, none, .mov (.c (.nil))⟩,
      ⟨some 3, none, .mov (.c (.bool false))⟩])
    .ret)
    .skip))
    (.seq (.region [⟨some 22, none, .mov (.t 4)⟩,
      ⟨some 23, none, .mov (.t 6)⟩,
      ⟨some 24, none, .bslice 1 [.t 23]⟩,
      ⟨some 25, none, .app 0 23 1 24 (.t 22) (.t 24)⟩,
      ⟨some 4, none, .mov (.t 25)⟩])
    (.region [⟨some 26, none, .mov (.t 7)⟩,
      ⟨some 5, none, .mov (.t 26)⟩])))))))))
    (.seq (.region [⟨some 27, none, .mov (.t 4)⟩,
      ⟨some 2, none, .mov (.t 27)⟩,
      ⟨some 3, none, .mov (.c (.bool true))⟩])
    .ret)))), [.tmp 2, .tmp 3]⟩
theorem T_cartoucheref23_Read : trFn Try.prog [] Try.f13 = some A_cartoucheref23_Read := by kernel_rfl
theorem L_cartoucheref23_Read : 1 ≤ Try.f13.ntmps := by decide

def A_cartoucheref23_Salvage : AFn := ⟨(.seq (.region [⟨some 2, none, .mov (.c (.nil))⟩,
      ⟨some 3, none, .mov (.c (.int .i64 0))⟩])
    (.seq (.region [⟨some 4, none, .mov (.c (.nil))⟩])
    (.seq (.region [⟨some 5, none, .mov (.c (.int .i64 0))⟩])
    (.seq (.seq (.region [⟨some 6, none, .mov (.c (.int .i64 0))⟩])
    (.block 0 (.loop (.seq (.seq (.region [⟨some 10, none, .mov (.t 6)⟩,
      ⟨some 11, none, .mov (.t 0)⟩,
      ⟨some 12, none, .len false (.t 11)⟩,
      ⟨some 13, none, .bin false .lss (.t 10) (.t 12)⟩])
    (.cond (.t 13) .skip
    (.exit 0)))
    (.block 1 (.seq (.region [⟨some 15, none, .mov (.t 0)⟩,
      ⟨some 16, none, .mov (.t 6)⟩,
      ⟨some 17, none, .call i_cartoucheref23_At [.t 15, .t 16]⟩,
      ⟨some 14, none, .mov (.t 17)⟩,
      ⟨some 18, none, .ext 0 (.t 14)⟩,
      ⟨some 19, none, .ext 1 (.t 14)⟩,
      ⟨some 20, none, .ext 2 (.t 14)⟩,
      ⟨some 7, none, .mov (.t 18)⟩,
      ⟨some 8, none, .mov (.t 19)⟩,
      ⟨some 9, none, .mov (.t 20)⟩])
    (.seq (.seq (.region [⟨some 21, none, .mov (.t 9)⟩,
      ⟨some 22, none, .un .not (.t 21)⟩])
    (.cond (.t 22) (.seq (.region [⟨some 23, none, .mov (.t 5)⟩,
      ⟨some 24, none, .bin false .add (.t 23) (.c (.int .i64 1))⟩,
      ⟨some 5, none, .mov (.t 24)⟩])
    (.seq (.region [⟨some 25, none, .mov (.t 6)⟩,
      ⟨some 26, none, .bin false .add (.t 25) (.c (.int .i64 1))⟩,
      ⟨some 6, none, .mov (.t 26)⟩])
    (.exit 1)))
    .skip))
    (.seq (.region [⟨some 27, none, .mov (.t 4)⟩,
      ⟨some 28, none, .mov (.t 6)⟩,
      ⟨some 29, none, .mov (.t 7)⟩,
      ⟨some 30, none, .build [.int .i64 0, .nil] [(0, 1, .t 28), (1, 1, .t 29)]⟩,
      ⟨some 31, none, .bslice 2 [.t 30]⟩,
      ⟨some 32, none, .app 0 60 2 32 (.t 27) (.t 31)⟩,
      ⟨some 4, none, .mov (.t 32)⟩])
    (.region [⟨some 33, none, .mov (.t 8)⟩,
      ⟨some 6, none, .mov (.t 33)⟩])))))))))
    (.seq (.region [⟨some 34, none, .mov (.t 4)⟩,
      ⟨some 35, none, .mov (.t 5)⟩,
      ⟨some 2, none, .mov (.t 34)⟩,
      ⟨some 3, none, .mov (.t 35)⟩])
    .ret))))), [.tmp 2, .tmp 3]⟩
theorem T_cartoucheref23_Salvage : trFn Try.prog [] Try.f14 = some A_cartoucheref23_Salvage := by kernel_rfl
theorem L_cartoucheref23_Salvage : 1 ≤ Try.f14.ntmps := by decide

def A_frame_sum : AFn := ⟨(.seq (.region [⟨some 4, none, .mov (.c (.int .u32 0))⟩])
    (.seq (.seq (.region [⟨some 7, none, .mov (.t 1)⟩,
      ⟨some 8, none, .len false (.t 7)⟩,
      ⟨some 9, none, .mov (.c (.int .i64 0))⟩])
    (.block 0 (.loop (.seq (.region [⟨some 10, none, .bin false .lss (.t 9) (.t 8)⟩])
    (.seq (.cond (.t 10) .skip
    (.exit 0))
    (.seq (.block 1 (.seq (.region [⟨some 11, none, .idxA 1 (.t 7) (.t 9)⟩,
      ⟨some 12, none, .load 1 false (.t 11)⟩,
      ⟨some 6, none, .mov (.t 12)⟩])
    (.region [⟨some 13, none, .mov (.t 0)⟩,
      ⟨some 14, none, .mov (.t 6)⟩,
      ⟨some 15, none, .conv .u32 (.t 14)⟩,
      ⟨some 16, none, .bin false .xor (.t 13) (.t 15)⟩,
      ⟨some 17, none, .bin false .mul (.t 16) (.c (.int .u32 16777619))⟩,
      ⟨some 0, none, .mov (.t 17)⟩])))
    (.region [⟨some 18, none, .bin false .add (.t 9) (.c (.int .i64 1))⟩,
      ⟨some 9, none, .mov (.t 18)⟩])))))))
    (.seq (.region [⟨some 19, none, .mov (.t 0)⟩,
      ⟨some 4, none, .mov (.t 19)⟩])
    .ret))), [.tmp 4]⟩
theorem T_frame_sum : trFn Try.prog [] Try.f19 = some A_frame_sum := by kernel_rfl
theorem L_frame_sum : 2 ≤ Try.f19.ntmps := by decide

def A_frame_stands : AFn := ⟨(.seq (.region [⟨some 4, none, .mov (.c (.int .i64 0))⟩,
      ⟨some 5, none, .mov (.c (.int .i64 0))⟩,
      ⟨some 6, none, .mov (.c (.bool false))⟩])
    (.seq (.seq (.region [⟨some 11, none, .mov (.t 1)⟩,
      ⟨some 12, none, .mov (.t 0)⟩,
      ⟨some 13, none, .len false (.t 12)⟩,
      ⟨some 14, none, .bin false .geq (.t 11) (.t 13)⟩,
      ⟨some 15, none, .mov (.t 14)⟩,
      ⟨some 16, some (15, false), .mov (.t 0)⟩,
      ⟨some 17, some (15, false), .mov (.t 1)⟩,
      ⟨some 18, some (15, false), .idxA 1 (.t 16) (.t 17)⟩,
      ⟨some 19, some (15, false), .load 1 false (.t 18)⟩,
      ⟨some 20, some (15, false), .bin false .neq (.t 19) (.c (.int .u8 126))⟩,
      ⟨some 21, none, .pickb (.t 15) (.c (.bool true)) (.t 20)⟩])
    (.cond (.t 21) (.seq (.region [⟨some 4, none, .mov (.c (.int .i64 0))⟩,
      ⟨some 5, none, .mov (.c (.int .i64 0))⟩,
      ⟨some 6, none, .mov (.c (.bool false))⟩])
    .ret)
    .skip))
    (.seq (.region [⟨some 23, none, .mov (.t 0)⟩,
      ⟨some 24, none, .mov (.t 1)⟩,
      ⟨some 25, none, .bin false .add (.t 24) (.c (.int .i64 1))⟩,
      ⟨some 26, none, .call i_wire_GetVarint [.t 23, .t 25]⟩,
      ⟨some 22, none, .mov (.t 26)⟩,
      ⟨some 27, none, .ext 0 (.t 22)⟩,
      ⟨some 28, none, .ext 1 (.t 22)⟩,
      ⟨some 29, none, .ext 2 (.t 22)⟩,
      ⟨some 7, none, .mov (.t 27)⟩,
      ⟨some 8, none, .mov (.t 28)⟩,
      ⟨some 9, none, .mov (.t 29)⟩])
    (.seq (.seq (.region [⟨some 30, none, .mov (.t 9)⟩,
      ⟨some 31, none, .bin false .neq (.t 30) (.c (.int .i64 0))⟩,
      ⟨some 32, none, .mov (.t 31)⟩,
      ⟨some 33, some (32, false), .mov (.t 7)⟩,
      ⟨some 34, some (32, false), .bin false .gtr (.t 33) (.c (.int .u64 65536))⟩,
      ⟨some 35, none, .pickb (.t 32) (.c (.bool true)) (.t 34)⟩,
      ⟨some 36, none, .mov (.t 35)⟩,
      ⟨some 37, some (36, false), .mov (.t 8)⟩,
      ⟨some 38, some (36, false), .mov (.t 1)⟩,
      ⟨some 39, some (36, false), .bin false .sub (.t 37) (.t 38)⟩,
      ⟨some 40, some (36, false), .bin false .sub (.t 39) (.c (.int .i64 1))⟩,
      ⟨some 41, some (36, false), .mov (.t 7)⟩,
      ⟨some 42, some (36, false), .call i_wire_Size [.t 41]⟩,
      ⟨some 43, some (36, false), .bin false .neq (.t 40) (.t 42)⟩,
      ⟨some 44, none, .pickb (.t 36) (.c (.bool true)) (.t 43)⟩])
    (.cond (.t 44) (.seq (.region [⟨some 4, none, .mov (.c (.int .i64 0))⟩,
      ⟨some 5, none, .mov (.c (.int .i64 0))⟩,
      ⟨some 6, none, .mov (.c (.bool false))⟩])
    .ret)
    .skip))
    (.seq (.region [⟨some 46, none, .mov (.t 0)⟩,
      ⟨some 47, none, .mov (.t 8)⟩,
      ⟨some 48, none, .call i_wire_GetFix32 [.t 46, .t 47]⟩,
      ⟨some 45, none, .mov (.t 48)⟩,
      ⟨some 49, none, .ext 0 (.t 45)⟩,
      ⟨some 50, none, .ext 1 (.t 45)⟩,
      ⟨some 51, none, .ext 2 (.t 45)⟩,
      ⟨some 10, none, .mov (.t 49)⟩,
      ⟨some 4, none, .mov (.t 50)⟩,
      ⟨some 9, none, .mov (.t 51)⟩])
    (.seq (.seq (.region [⟨some 52, none, .mov (.t 9)⟩,
      ⟨some 53, none, .bin false .neq (.t 52) (.c (.int .i64 0))⟩,
      ⟨some 54, none, .mov (.t 53)⟩,
      ⟨some 55, some (54, false), .mov (.t 7)⟩,
      ⟨some 56, some (54, false), .conv .i64 (.t 55)⟩,
      ⟨some 57, some (54, false), .mov (.t 0)⟩,
      ⟨some 58, some (54, false), .len false (.t 57)⟩,
      ⟨some 59, some (54, false), .mov (.t 4)⟩,
      ⟨some 60, some (54, false), .bin false .sub (.t 58) (.t 59)⟩,
      ⟨some 61, some (54, false), .bin false .gtr (.t 56) (.t 60)⟩,
      ⟨some 62, none, .pickb (.t 54) (.c (.bool true)) (.t 61)⟩])
    (.cond (.t 62) (.seq (.region [⟨some 4, none, .mov (.c (.int .i64 0))⟩,
      ⟨some 5, none, .mov (.c (.int .i64 0))⟩,
      ⟨some 6, none, .mov (.c (.bool false))⟩])
    .ret)
    .skip))
    (.seq (.region [⟨some 63, none, .mov (.t 4)⟩,
      ⟨some 64, none, .mov (.t 7)⟩,
      ⟨some 65, none, .conv .i64 (.t 64)⟩,
      ⟨some 66, none, .bin false .add (.t 63) (.t 65)⟩,
      ⟨some 5, none, .mov (.t 66)⟩])
    (.seq (.draw [] [⟨some 67, none, .mov (.t 4)⟩,
      ⟨some 68, none, .mov (.t 5)⟩,
      ⟨some 69, none, .mov (.t 10)⟩,
      ⟨some 70, none, .mov (.t 0)⟩,
      ⟨some 71, none, .mov (.t 1)⟩,
      ⟨some 72, none, .bin false .add (.t 71) (.c (.int .i64 1))⟩,
      ⟨some 73, none, .mov (.t 8)⟩,
      ⟨some 74, none, .slc 1 (.t 70) (some (.t 72)) (some (.t 73)) none⟩,
      ⟨some 75, none, .call i_frame_Sum [.t 74]⟩,
      ⟨some 76, none, .mov (.t 0)⟩,
      ⟨some 77, none, .mov (.t 4)⟩,
      ⟨some 78, none, .mov (.t 5)⟩,
      ⟨some 79, none, .slc 1 (.t 76) (some (.t 77)) (some (.t 78)) none⟩,
      ⟨some 80, none, .call i_frame_sum [.t 75, .t 79]⟩,
      ⟨some 81, none, .bin false .eql (.t 69) (.t 80)⟩,
      ⟨some 4, none, .mov (.t 67)⟩,
      ⟨some 5, none, .mov (.t 68)⟩,
      ⟨some 6, none, .mov (.t 81)⟩])
    .ret)))))))), [.tmp 4, .tmp 5, .tmp 6]⟩
theorem T_frame_stands : trFn Try.prog [] Try.f20 = some A_frame_stands := by kernel_rfl
theorem L_frame_stands : 2 ≤ Try.f20.ntmps := by decide

def A_frame_frames : AFn := ⟨(.seq (.region [⟨some 1, none, .boxI (.t 0)⟩,
      ⟨some 2, none, .mov (.c (.nilfn))⟩])
    (.seq (.region [⟨some 3, none, .mkfn (.func 29) [] [.t 1]⟩,
      ⟨some 2, none, .mov (.t 3)⟩])
    .ret)), [.tmp 2]⟩
theorem T_frame_frames : trFn Try.prog [] Try.f21 = some A_frame_frames := by kernel_rfl
theorem L_frame_frames : 1 ≤ Try.f21.ntmps := by decide

def A_cartoucheref23_Frame : AFn := ⟨(.seq (.region [⟨some 2, none, .mov (.c (.nil))⟩])
    (.seq (.region [⟨some 5, none, .mov (.t 0)⟩,
      ⟨some 6, none, .len false (.t 5)⟩,
      ⟨some 7, none, .conv .u64 (.t 6)⟩,
      ⟨some 8, none, .call i_cartoucheref1_PutVarint [.t 7]⟩,
      ⟨some 3, none, .mov (.t 8)⟩])
    (.seq (.region [⟨some 9, none, .blit 50 5 1 [.c (.int .u8 126)]⟩,
      ⟨some 10, none, .mov (.t 3)⟩,
      ⟨some 11, none, .app 50 5 1 1 (.t 9) (.t 10)⟩,
      ⟨some 4, none, .mov (.t 11)⟩])
    (.seq (.region [⟨some 12, none, .mov (.t 4)⟩,
      ⟨some 13, none, .mov (.t 3)⟩,
      ⟨some 14, none, .mov (.t 0)⟩,
      ⟨some 15, none, .app 1 5 1 1 (.t 13) (.t 14)⟩,
      ⟨some 16, none, .call i_cartoucheref23_Sum [.t 15]⟩,
      ⟨some 17, none, .conv .u64 (.t 16)⟩,
      ⟨some 18, none, .call i_cartoucheref1_PutWord [.t 17, .c (.int .i64 4)]⟩,
      ⟨some 19, none, .app 50 5 1 1 (.t 12) (.t 18)⟩,
      ⟨some 4, none, .mov (.t 19)⟩])
    (.seq (.region [⟨some 20, none, .mov (.t 4)⟩,
      ⟨some 21, none, .mov (.t 0)⟩,
      ⟨some 22, none, .app 50 5 1 1 (.t 20) (.t 21)⟩,
      ⟨some 2, none, .mov (.t 22)⟩])
    .ret))))), [.tmp 2]⟩
theorem T_cartoucheref23_Frame : trFn Try.prog [(2, [51, 0, 50, 0]), (3, [0, 0, 0, 1, 0, 0, 0, 50, 0]), (4, [0, 0, 50, 0])] Try.f22 = some A_cartoucheref23_Frame := by kernel_rfl
theorem L_cartoucheref23_Frame : 1 ≤ Try.f22.ntmps := by decide

def A_cartoucheref23_At : AFn := ⟨(.seq (.region [⟨some 4, none, .mov (.c (.nil))⟩,
      ⟨some 5, none, .mov (.c (.int .i64 0))⟩,
      ⟨some 6, none, .mov (.c (.bool false))⟩])
    (.seq (.seq (.region [⟨some 13, none, .mov (.t 0)⟩,
      ⟨some 14, none, .mov (.t 1)⟩,
      ⟨some 15, none, .idxA 1 (.t 13) (.t 14)⟩,
      ⟨some 16, none, .load 1 false (.t 15)⟩,
      ⟨some 17, none, .bin false .neq (.t 16) (.c (.int .u8 126))⟩])
    (.cond (.t 17) (.seq (.region [⟨some 4, none, .mov (.c (.nil))⟩,
      ⟨some 5, none, .mov (.c (.int .i64 0))⟩,
      ⟨some 6, none, .mov (.c (.bool false))⟩])
    .ret)
    .skip))
    (.seq (.region [⟨some 19, none, .mov (.t 0)⟩,
      ⟨some 20, none, .mov (.t 1)⟩,
      ⟨some 21, none, .bin false .add (.t 20) (.c (.int .i64 1))⟩,
      ⟨some 22, none, .call i_cartoucheref1_GetVarint [.t 19, .t 21]⟩,
      ⟨some 18, none, .mov (.t 22)⟩,
      ⟨some 23, none, .ext 0 (.t 18)⟩,
      ⟨some 24, none, .ext 1 (.t 18)⟩,
      ⟨some 25, none, .ext 2 (.t 18)⟩,
      ⟨some 7, none, .mov (.t 23)⟩,
      ⟨some 8, none, .mov (.t 24)⟩,
      ⟨some 9, none, .mov (.t 25)⟩])
    (.seq (.seq (.region [⟨some 26, none, .mov (.t 9)⟩,
      ⟨some 27, none, .bin false .neq (.t 26) (.c (.int .i64 0))⟩,
      ⟨some 28, none, .mov (.t 27)⟩,
      ⟨some 29, some (28, false), .mov (.t 7)⟩,
      ⟨some 30, some (28, false), .bin false .gtr (.t 29) (.c (.int .u64 65536))⟩,
      ⟨some 31, none, .pickb (.t 28) (.c (.bool true)) (.t 30)⟩,
      ⟨some 32, none, .mov (.t 31)⟩,
      ⟨some 33, some (32, false), .mov (.t 8)⟩,
      ⟨some 34, some (32, false), .bin false .add (.t 33) (.c (.int .i64 4))⟩,
      ⟨some 35, some (32, false), .mov (.t 7)⟩,
      ⟨some 36, some (32, false), .conv .i64 (.t 35)⟩,
      ⟨some 37, some (32, false), .bin false .add (.t 34) (.t 36)⟩,
      ⟨some 38, some (32, false), .mov (.t 0)⟩,
      ⟨some 39, some (32, false), .len false (.t 38)⟩,
      ⟨some 40, some (32, false), .bin false .gtr (.t 37) (.t 39)⟩,
      ⟨some 41, none, .pickb (.t 32) (.c (.bool true)) (.t 40)⟩])
    (.cond (.t 41) (.seq (.region [⟨some 4, none, .mov (.c (.nil))⟩,
      ⟨some 5, none, .mov (.c (.int .i64 0))⟩,
      ⟨some 6, none, .mov (.c (.bool false))⟩])
    .ret)
    .skip))
    (.seq (.region [⟨some 42, none, .mov (.t 0)⟩,
      ⟨some 43, none, .mov (.t 8)⟩,
      ⟨some 44, none, .bin false .add (.t 43) (.c (.int .i64 4))⟩,
      ⟨some 45, none, .mov (.t 8)⟩,
      ⟨some 46, none, .bin false .add (.t 45) (.c (.int .i64 4))⟩,
      ⟨some 47, none, .mov (.t 7)⟩,
      ⟨some 48, none, .conv .i64 (.t 47)⟩,
      ⟨some 49, none, .bin false .add (.t 46) (.t 48)⟩,
      ⟨some 50, none, .slc 1 (.t 42) (some (.t 44)) (some (.t 49)) none⟩,
      ⟨some 10, none, .mov (.t 50)⟩])
    (.seq (.region [⟨some 51, none, .mov (.t 8)⟩,
      ⟨some 52, none, .bin false .add (.t 51) (.c (.int .i64 4))⟩,
      ⟨some 53, none, .mov (.t 7)⟩,
      ⟨some 54, none, .conv .i64 (.t 53)⟩,
      ⟨some 55, none, .bin false .add (.t 52) (.t 54)⟩,
      ⟨some 11, none, .mov (.t 55)⟩])
    (.seq (.seq (.draw [] [⟨some 56, none, .mov (.t 10)⟩,
      ⟨some 57, none, .call i_cartoucheref23_Frame [.t 56]⟩,
      ⟨some 58, none, .b2s (.t 57)⟩,
      ⟨some 59, none, .mov (.t 0)⟩,
      ⟨some 60, none, .mov (.t 1)⟩,
      ⟨some 61, none, .mov (.t 11)⟩,
      ⟨some 62, none, .slc 1 (.t 59) (some (.t 60)) (some (.t 61)) none⟩,
      ⟨some 63, none, .b2s (.t 62)⟩,
      ⟨some 64, none, .bin false .neq (.t 58) (.t 63)⟩])
    (.cond (.t 64) (.seq (.region [⟨some 4, none, .mov (.c (.nil))⟩,
      ⟨some 5, none, .mov (.c (.int .i64 0))⟩,
      ⟨some 6, none, .mov (.c (.bool false))⟩])
    .ret)
    .skip))
    (.seq (.region [⟨some 12, none, .mov (.c (.nil))⟩])
    (.seq (.region [⟨some 65, none, .mov (.t 12)⟩,
      ⟨some 66, none, .mov (.t 10)⟩,
      ⟨some 67, none, .app 0 5 1 1 (.t 65) (.t 66)⟩,
      ⟨some 68, none, .mov (.t 11)⟩,
      ⟨some 4, none, .mov (.t 67)⟩,
      ⟨some 5, none, .mov (.t 68)⟩,
      ⟨some 6, none, .mov (.c (.bool true))⟩])
    .ret))))))))), [.tmp 4, .tmp 5, .tmp 6]⟩
theorem T_cartoucheref23_At : trFn Try.prog [] Try.f23 = some A_cartoucheref23_At := by kernel_rfl
theorem L_cartoucheref23_At : 2 ≤ Try.f23.ntmps := by decide

abbrev i_frame_frames_1 : FuncId := 29
theorem F_frame_frames_1 : Try.prog.funcs[i_frame_frames_1]? = some Try.f29 := Try.func29
abbrev i_bytes_Clone : FuncId := 30
theorem F_bytes_Clone : Try.prog.funcs[i_bytes_Clone]? = some Try.f30 := Try.func30
end Go.Proofs.Ytinoaofgbkdohaa.Ag
