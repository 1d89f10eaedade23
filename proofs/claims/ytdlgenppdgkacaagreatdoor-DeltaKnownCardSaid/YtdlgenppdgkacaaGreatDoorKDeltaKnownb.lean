/- The functions that DeltaKnown reaches, further. -/
import Derived.Test.YtdlgenppdgkacaaGreatDoorKDeltaKnowna
set_option maxRecDepth 100000
namespace Go.Proofs.YtdlgenppdgkacaaGreatDoor.Ag
set_option maxRecDepth 100000
/-! cartouche/table.Good -/
def A_table_Good : AFn := ⟨(.seq (.region [⟨some 1, none, .box 0 (.t 0)⟩,
      ⟨some 2, none, .mov (.c (.bool false))⟩])
    (.seq (.seq (.region [⟨some 8, none, .fldA 0 1 false (.t 1)⟩,
      ⟨some 9, none, .load 1 false (.t 8)⟩,
      ⟨some 10, none, .len false (.t 9)⟩,
      ⟨some 11, none, .bin false .gtr (.t 10) (.c (.int .i64 128))⟩])
    (.cond (.t 11) (.seq (.region [⟨some 2, none, .mov (.c (.bool false))⟩])
    .ret)
    .skip))
    (.seq (.region [⟨some 12, none, .mkmap 0 .str⟩,
      ⟨some 3, none, .mov (.t 12)⟩])
    (.seq (.seq (.region [⟨some 13, none, .fldA 0 1 false (.t 1)⟩,
      ⟨some 14, none, .load 1 false (.t 13)⟩,
      ⟨some 15, none, .len false (.t 14)⟩,
      ⟨some 16, none, .mov (.c (.int .i64 0))⟩])
    (.block 0 (.loop (.seq (.region [⟨some 17, none, .bin false .lss (.t 16) (.t 15)⟩])
    (.seq (.cond (.t 17) .skip
    (.exit 0))
    (.seq (.block 1 (.seq (.region [⟨some 18, none, .mov (.t 16)⟩,
      ⟨some 19, none, .idxA 6 (.t 14) (.t 16)⟩,
      ⟨some 20, none, .load 6 true (.t 19)⟩,
      ⟨some 5, none, .alloc 0 [.str ⟨#[]⟩, .bool false, .nil, .nil, .nil, .nil]⟩,
      ⟨some 4, none, .mov (.t 18)⟩,
      ⟨none, none, .store 6 (.t 5) (.t 20)⟩])
    (.seq (.seq (.region [⟨some 22, none, .mov (.t 3)⟩,
      ⟨some 23, none, .fldA 0 1 false (.t 5)⟩,
      ⟨some 24, none, .load 1 false (.t 23)⟩,
      ⟨some 25, none, .look .str (.int .i64 0) true (.t 22) (.t 24)⟩,
      ⟨some 21, none, .mov (.t 25)⟩,
      ⟨some 26, none, .ext 0 (.t 21)⟩,
      ⟨some 27, none, .ext 1 (.t 21)⟩,
      ⟨some 6, none, .mov (.t 26)⟩,
      ⟨some 7, none, .mov (.t 27)⟩])
    (.seq (.region [⟨some 28, none, .mov (.t 7)⟩,
      ⟨some 29, none, .mov (.t 28)⟩,
      ⟨some 30, some (29, false), .load 1 true (.t 1)⟩,
      ⟨some 31, some (29, false), .mov (.t 4)⟩,
      ⟨some 32, some (29, false), .mov (.t 3)⟩,
      ⟨some 33, some (29, false), .call i_table_goodName [.t 30, .t 31, .t 32]⟩,
      ⟨some 34, some (29, false), .un .not (.t 33)⟩,
      ⟨some 35, none, .pickb (.t 29) (.c (.bool true)) (.t 34)⟩])
    (.cond (.t 35) (.seq (.region [⟨some 2, none, .mov (.c (.bool false))⟩])
    .ret)
    .skip)))
    (.seq (.region [⟨some 36, none, .mov (.t 3)⟩,
      ⟨some 37, none, .fldA 0 1 false (.t 5)⟩,
      ⟨some 38, none, .load 1 false (.t 37)⟩,
      ⟨some 39, none, .mov (.t 4)⟩,
      ⟨none, none, .mapset .str (.t 36) (.t 38) (.t 39)⟩])
    (.seq (.region [⟨some 40, none, .fldA 1 1 false (.t 5)⟩,
      ⟨some 41, none, .load 1 false (.t 40)⟩,
      ⟨some 42, none, .mov (.t 41)⟩,
      ⟨some 43, some (42, true), .load 6 true (.t 5)⟩,
      ⟨some 44, some (42, true), .call i_table_goodEnum [.t 43]⟩,
      ⟨some 45, some (42, true), .un .not (.t 44)⟩,
      ⟨some 46, none, .pickb (.t 42) (.t 45) (.c (.bool false))⟩,
      ⟨some 47, none, .mov (.t 46)⟩,
      ⟨some 48, some (47, false), .fldA 1 1 false (.t 5)⟩,
      ⟨some 49, some (47, false), .load 1 false (.t 48)⟩,
      ⟨some 50, some (47, false), .un .not (.t 49)⟩,
      ⟨some 51, some (47, false), .mov (.t 50)⟩,
      ⟨some 52, some (51, true), .load 1 true (.t 1)⟩,
      ⟨some 53, some (51, true), .load 6 true (.t 5)⟩,
      ⟨some 54, some (51, true), .call i_table_goodMessage [.t 52, .t 53]⟩,
      ⟨some 55, some (51, true), .un .not (.t 54)⟩,
      ⟨some 56, some (47, false), .pickb (.t 51) (.t 55) (.c (.bool false))⟩,
      ⟨some 57, none, .pickb (.t 47) (.c (.bool true)) (.t 56)⟩])
    (.cond (.t 57) (.seq (.region [⟨some 2, none, .mov (.c (.bool false))⟩])
    .ret)
    .skip))))))
    (.region [⟨some 58, none, .bin false .add (.t 16) (.c (.int .i64 1))⟩,
      ⟨some 16, none, .mov (.t 58)⟩])))))))
    (.seq (.region [⟨some 2, none, .mov (.c (.bool true))⟩])
    .ret))))), [.tmp 2]⟩
theorem T_table_Good : trFn Tryz.prog [(0, [1, 0]), (6, [0, 0, 0, 1, 0, 0])] Tryz.f145 = some A_table_Good := by kernel_rfl
theorem L_table_Good : 1 ≤ Tryz.f145.ntmps := by decide

/-! cartouche/delta.diff$1 -/
def A_delta_diff_1 : AFn := ⟨(.seq (.region [⟨some 6, none, .box 0 (.t 1)⟩])
    (.draw [2, 3, 5, 7, 8, 9, 10, 11, 1000000, 1000004, 2000010, 2000011] [⟨some 8, none, .load 1 false (.t 3)⟩,
      ⟨some 9, none, .mov (.t 0)⟩,
      ⟨some 10, none, .load 1 false (.t 4)⟩,
      ⟨some 11, none, .call i_delta_ints [.t 10]⟩,
      ⟨some 12, none, .load 3 true (.t 6)⟩,
      ⟨some 13, none, .call i_model_CopyField [.t 12]⟩,
      ⟨some 14, none, .mov (.t 2)⟩,
      ⟨some 15, none, .call i_delta_entries [.t 14]⟩,
      ⟨some 16, none, .build [.int .i64 0, .nil, .int .i64 0, .nil, .nil, .nil] [(0, 1, .t 9), (1, 1, .t 11), (2, 3, .t 13), (5, 1, .t 15)]⟩,
      ⟨some 17, none, .blit 0 82 6 [.t 16]⟩,
      ⟨some 18, none, .app 0 82 6 112 (.t 8) (.t 17)⟩,
      ⟨none, none, .store 1 (.t 3) (.t 18)⟩])), []⟩
theorem T_delta_diff_1 : trFn Tryz.prog [(0, [1]), (1, [0, 0, 0, 0, 0, 0, 0, 0, 0, 1, 0, 0]), (1000001, [2, 3, 5, 7, 8, 9, 10, 11, 1000000, 1000004, 2000010, 2000011])] Tryz.f148 = some A_delta_diff_1 := by kernel_rfl
theorem L_delta_diff_1 : 5 ≤ Tryz.f148.ntmps := by decide

/-! cartouche/delta.ints -/
def A_delta_ints : AFn := ⟨(.seq (.region [⟨some 2, none, .mov (.c (.nil))⟩])
    (.seq (.region [⟨some 3, none, .mov (.t 0)⟩,
      ⟨some 4, none, .len false (.t 3)⟩,
      ⟨some 5, none, .mks 0 3 1 8 (.int .i64 0) (.c (.int .i64 0)) (.t 4)⟩,
      ⟨some 6, none, .mov (.t 0)⟩,
      ⟨some 7, none, .app 0 3 1 8 (.t 5) (.t 6)⟩,
      ⟨some 2, none, .mov (.t 7)⟩])
    .ret)), [.tmp 2]⟩
theorem T_delta_ints : trFn Tryz.prog [] Tryz.f149 = some A_delta_ints := by kernel_rfl
theorem L_delta_ints : 1 ≤ Tryz.f149.ntmps := by decide

/-! cartouche/delta.entries -/
def A_delta_entries : AFn := ⟨(.seq (.region [⟨some 2, none, .mov (.c (.nil))⟩])
    (.seq (.region [⟨some 6, none, .mov (.t 0)⟩,
      ⟨some 7, none, .len false (.t 6)⟩,
      ⟨some 8, none, .mks 0 40 4 48 (.agg [.int .i64 0, .int .i64 0, .int .u64 0, .nil]) (.c (.int .i64 0)) (.t 7)⟩,
      ⟨some 3, none, .mov (.t 8)⟩])
    (.seq (.seq (.region [⟨some 9, none, .mov (.t 0)⟩,
      ⟨some 10, none, .len false (.t 9)⟩,
      ⟨some 11, none, .mov (.c (.int .i64 0))⟩])
    (.block 0 (.loop (.seq (.region [⟨some 12, none, .bin false .lss (.t 11) (.t 10)⟩])
    (.seq (.cond (.t 12) .skip
    (.exit 0))
    (.seq (.block 1 (.seq (.region [⟨some 13, none, .idxA 4 (.t 9) (.t 11)⟩,
      ⟨some 14, none, .load 4 true (.t 13)⟩,
      ⟨some 5, none, .alloc 0 [.int .i64 0, .int .i64 0, .int .u64 0, .nil]⟩,
      ⟨none, none, .store 4 (.t 5) (.t 14)⟩])
    (.region [⟨some 15, none, .mov (.t 3)⟩,
      ⟨some 16, none, .load 4 true (.t 5)⟩,
      ⟨some 17, none, .call i_model_CopyEntry [.t 16]⟩,
      ⟨some 18, none, .blit 0 40 4 [.t 17]⟩,
      ⟨some 19, none, .app 0 40 4 48 (.t 15) (.t 18)⟩,
      ⟨some 3, none, .mov (.t 19)⟩])))
    (.region [⟨some 20, none, .bin false .add (.t 11) (.c (.int .i64 1))⟩,
      ⟨some 11, none, .mov (.t 20)⟩])))))))
    (.seq (.region [⟨some 21, none, .mov (.t 3)⟩,
      ⟨some 2, none, .mov (.t 21)⟩])
    .ret)))), [.tmp 2]⟩
theorem T_delta_entries : trFn Tryz.prog [(4, [0, 0, 1, 0]), (5, [0, 0, 0, 1, 0, 0])] Tryz.f150 = some A_delta_entries := by kernel_rfl
theorem L_delta_entries : 1 ≤ Tryz.f150.ntmps := by decide

/-! cartouche/delta.alone -/
def A_delta_alone : AFn := ⟨(.seq (.region [⟨some 1, none, .box 0 (.t 0)⟩,
      ⟨some 2, none, .alloc 0 [.nil, .nil]⟩])
    (.seq (.region [⟨some 3, none, .load 3 true (.t 1)⟩,
      ⟨some 4, none, .blit 0 29 3 [.t 3]⟩,
      ⟨some 5, none, .build [.nil, .nil] [(0, 1, .t 4)]⟩,
      ⟨none, none, .store 2 (.t 2) (.t 5)⟩])
    .ret)), [.cell 2 2 true]⟩
theorem T_delta_alone : trFn Tryz.prog [(0, [1, 1]), (1, [0, 1, 0, 0])] Tryz.f151 = some A_delta_alone := by kernel_rfl
theorem L_delta_alone : 1 ≤ Tryz.f151.ntmps := by decide

/-! cartouche/delta.goes -/
def A_delta_goes : AFn := ⟨(.seq (.region [⟨some 1, none, .box 0 (.t 0)⟩,
      ⟨some 2, none, .mov (.c (.bool false))⟩])
    (.seq (.region [⟨some 3, none, .fldA 4 1 false (.t 1)⟩,
      ⟨some 4, none, .load 1 false (.t 3)⟩,
      ⟨some 5, none, .bin false .eql (.t 4) (.c (.int .i64 1))⟩,
      ⟨some 6, none, .mov (.t 5)⟩,
      ⟨some 7, some (6, true), .fldA 2 1 false (.t 1)⟩,
      ⟨some 8, some (6, true), .load 1 false (.t 7)⟩,
      ⟨some 9, some (6, true), .bin false .eql (.t 8) (.c (.int .i64 17))⟩,
      ⟨some 10, none, .pickb (.t 6) (.t 9) (.c (.bool false))⟩,
      ⟨some 2, none, .mov (.t 10)⟩])
    .ret)), [.tmp 2]⟩
theorem T_delta_goes : trFn Tryz.prog [(0, [1, 0])] Tryz.f152 = some A_delta_goes := by kernel_rfl
theorem L_delta_goes : 1 ≤ Tryz.f152.ntmps := by decide

/-! cartouche/delta.unknown -/
def A_delta_unknown : AFn := ⟨(.seq (.region [⟨some 2, none, .alloc 0 [.nil, .nil]⟩])
    (.seq (.region [⟨some 3, none, .mov (.t 0)⟩,
      ⟨some 4, none, .build [.nil, .nil] [(1, 1, .t 3)]⟩,
      ⟨none, none, .store 2 (.t 2) (.t 4)⟩])
    .ret)), [.cell 2 2 true]⟩
theorem T_delta_unknown : trFn Tryz.prog [(0, [1])] Tryz.f153 = some A_delta_unknown := by kernel_rfl
theorem L_delta_unknown : 1 ≤ Tryz.f153.ntmps := by decide

/-! cartouche/cartoucheref1.Same -/
def A_cartoucheref1_Same : AFn := ⟨(.seq (.region [⟨some 2, none, .box 0 (.t 0)⟩,
      ⟨some 3, none, .box 0 (.t 1)⟩,
      ⟨some 4, none, .mov (.c (.bool false))⟩])
    (.seq (.region [⟨some 5, none, .fldA 0 1 false (.t 2)⟩,
      ⟨some 6, none, .load 1 false (.t 5)⟩,
      ⟨some 7, none, .fldA 0 1 false (.t 3)⟩,
      ⟨some 8, none, .load 1 false (.t 7)⟩,
      ⟨some 9, none, .bin false .eql (.t 6) (.t 8)⟩,
      ⟨some 10, none, .mov (.t 9)⟩,
      ⟨some 11, some (10, true), .fldA 1 1 false (.t 2)⟩,
      ⟨some 12, some (10, true), .load 1 false (.t 11)⟩,
      ⟨some 13, some (10, true), .fldA 1 1 false (.t 3)⟩,
      ⟨some 14, some (10, true), .load 1 false (.t 13)⟩,
      ⟨some 15, some (10, true), .bin false .eql (.t 12) (.t 14)⟩,
      ⟨some 16, none, .pickb (.t 10) (.t 15) (.c (.bool false))⟩,
      ⟨some 17, none, .mov (.t 16)⟩,
      ⟨some 18, some (17, true), .fldA 2 1 false (.t 2)⟩,
      ⟨some 19, some (17, true), .load 1 false (.t 18)⟩,
      ⟨some 20, some (17, true), .fldA 2 1 false (.t 3)⟩,
      ⟨some 21, some (17, true), .load 1 false (.t 20)⟩,
      ⟨some 22, some (17, true), .bin false .eql (.t 19) (.t 21)⟩,
      ⟨some 23, none, .pickb (.t 17) (.t 22) (.c (.bool false))⟩,
      ⟨some 24, none, .mov (.t 23)⟩,
      ⟨some 25, some (24, true), .fldA 3 1 false (.t 2)⟩,
      ⟨some 26, some (24, true), .load 1 false (.t 25)⟩,
      ⟨some 27, some (24, true), .b2s (.t 26)⟩,
      ⟨some 28, some (24, true), .fldA 3 1 false (.t 3)⟩,
      ⟨some 29, some (24, true), .load 1 false (.t 28)⟩,
      ⟨some 30, some (24, true), .b2s (.t 29)⟩,
      ⟨some 31, some (24, true), .bin false .eql (.t 27) (.t 30)⟩,
      ⟨some 32, none, .pickb (.t 24) (.t 31) (.c (.bool false))⟩,
      ⟨some 4, none, .mov (.t 32)⟩])
    .ret)), [.tmp 4]⟩
theorem T_cartoucheref1_Same : trFn Tryz.prog [(0, [1, 1, 0])] Tryz.f154 = some A_cartoucheref1_Same := by kernel_rfl
theorem L_cartoucheref1_Same : 2 ≤ Tryz.f154.ntmps := by decide

/-! cartouche/delta.at -/
def A_delta_at : AFn := ⟨(.seq (.region [⟨some 3, none, .box 0 (.t 1)⟩,
      ⟨some 4, none, .mov (.c (.int .i64 0))⟩])
    (.seq (.region [⟨some 5, none, .mov (.t 0)⟩,
      ⟨some 6, none, .nilck (.t 5)⟩,
      ⟨some 7, none, .fldA 0 1 false (.t 6)⟩,
      ⟨some 8, none, .load 1 false (.t 7)⟩,
      ⟨some 9, none, .mkfn (.func 204) [] [.t 3]⟩,
      ⟨some 10, none, .call i_slices_IndexFunc_api_Field_api_Field [.t 8, .t 9]⟩,
      ⟨some 4, none, .mov (.t 10)⟩])
    .ret)), [.tmp 4]⟩
theorem T_delta_at : trFn Tryz.prog [(0, [1, 0])] Tryz.f155 = some A_delta_at := by kernel_rfl
theorem L_delta_at : 2 ≤ Tryz.f155.ntmps := by decide

/-! cartouche/delta.laid -/
def A_delta_laid : AFn := ⟨(.seq (.region [⟨some 3, none, .box 0 (.t 1)⟩])
    (.seq (.seq (.region [⟨some 6, none, .mov (.t 0)⟩,
      ⟨some 7, none, .fldA 0 1 false (.t 3)⟩,
      ⟨some 8, none, .load 1 false (.t 7)⟩,
      ⟨some 9, none, .call i_delta_at [.t 6, .t 8]⟩,
      ⟨some 4, none, .mov (.t 9)⟩])
    (.seq (.region [⟨some 10, none, .mov (.t 4)⟩,
      ⟨some 11, none, .bin false .geq (.t 10) (.c (.int .i64 0))⟩])
    (.cond (.t 11) (.seq (.draw [3, 6, 7, 1000005, 2000006, 2000007] [⟨some 12, none, .mov (.t 0)⟩,
      ⟨some 13, none, .nilck (.t 12)⟩,
      ⟨some 14, none, .fldA 0 1 false (.t 13)⟩,
      ⟨some 15, none, .load 1 false (.t 14)⟩,
      ⟨some 16, none, .mov (.t 4)⟩,
      ⟨some 17, none, .load 3 true (.t 3)⟩,
      ⟨some 18, none, .idxA 3 (.t 15) (.t 16)⟩,
      ⟨none, none, .store 3 (.t 18) (.t 17)⟩])
    .ret)
    .skip)))
    (.seq (.region [⟨some 19, none, .mov (.t 0)⟩,
      ⟨some 20, none, .nilck (.t 19)⟩,
      ⟨some 21, none, .fldA 0 1 false (.t 20)⟩,
      ⟨some 22, none, .load 1 false (.t 21)⟩,
      ⟨some 23, none, .mkfn (.func 205) [] [.t 3]⟩,
      ⟨some 24, none, .call i_slices_IndexFunc_api_Field_api_Field [.t 22, .t 23]⟩,
      ⟨some 5, none, .mov (.t 24)⟩])
    (.seq (.seq (.region [⟨some 25, none, .mov (.t 5)⟩,
      ⟨some 26, none, .bin false .lss (.t 25) (.c (.int .i64 0))⟩])
    (.cond (.t 26) (.region [⟨some 27, none, .mov (.t 0)⟩,
      ⟨some 28, none, .nilck (.t 27)⟩,
      ⟨some 29, none, .fldA 0 1 false (.t 28)⟩,
      ⟨some 30, none, .load 1 false (.t 29)⟩,
      ⟨some 31, none, .len false (.t 30)⟩,
      ⟨some 5, none, .mov (.t 31)⟩])
    .skip))
    (.draw [4, 8, 11, 1000006, 2000008, 2000011] [⟨some 32, none, .mov (.t 0)⟩,
      ⟨some 33, none, .mov (.t 0)⟩,
      ⟨some 34, none, .nilck (.t 33)⟩,
      ⟨some 35, none, .fldA 0 1 false (.t 34)⟩,
      ⟨some 36, none, .load 1 false (.t 35)⟩,
      ⟨some 37, none, .mov (.t 5)⟩,
      ⟨some 38, none, .load 3 true (.t 3)⟩,
      ⟨some 39, none, .bslice 3 [.t 38]⟩,
      ⟨some 40, none, .call i_slices_Insert_api_Field_api_Field [.t 36, .t 37, .t 39]⟩,
      ⟨some 41, none, .nilck (.t 32)⟩,
      ⟨some 42, none, .fldA 0 1 false (.t 41)⟩,
      ⟨none, none, .store 1 (.t 42) (.t 40)⟩]))))), []⟩
theorem T_delta_laid : trFn Tryz.prog [(0, [1]), (1000003, [3, 6, 7, 1000005, 2000006, 2000007]), (1000007, [4, 8, 11, 1000006, 2000008, 2000011])] Tryz.f156 = some A_delta_laid := by kernel_rfl
theorem L_delta_laid : 2 ≤ Tryz.f156.ntmps := by decide

/-! slices.Delete[[]cartouche/api.Field,cartouche/api.Field] -/
def A_slices_Delete_api_Field_api_Field : AFn := ⟨(.seq (.region [⟨some 6, none, .mov (.c (.nil))⟩])
    (.seq (.region [⟨some 8, none, .mov (.t 0)⟩,
      ⟨some 9, none, .mov (.t 1)⟩,
      ⟨some 10, none, .mov (.t 2)⟩,
      ⟨some 11, none, .mov (.t 0)⟩,
      ⟨some 12, none, .len false (.t 11)⟩,
      ⟨some 13, none, .slcL 3 (.t 8) (some (.t 9)) (some (.t 10)) (some (.t 12))⟩])
    (.seq (.seq (.region [⟨some 14, none, .mov (.t 1)⟩,
      ⟨some 15, none, .mov (.t 2)⟩,
      ⟨some 16, none, .bin false .eql (.t 14) (.t 15)⟩])
    (.cond (.t 16) (.seq (.region [⟨some 17, none, .mov (.t 0)⟩,
      ⟨some 6, none, .mov (.t 17)⟩])
    .ret)
    .skip))
    (.seq (.region [⟨some 18, none, .mov (.t 0)⟩,
      ⟨some 19, none, .len false (.t 18)⟩,
      ⟨some 7, none, .mov (.t 19)⟩])
    (.seq (.draw [6, 1000002, 1000005, 2000006] [⟨some 20, none, .mov (.t 0)⟩,
      ⟨some 21, none, .mov (.t 1)⟩,
      ⟨some 22, none, .slcL 3 (.t 20) none (some (.t 21)) none⟩,
      ⟨some 23, none, .mov (.t 0)⟩,
      ⟨some 24, none, .mov (.t 2)⟩,
      ⟨some 25, none, .slcL 3 (.t 23) (some (.t 24)) none none⟩,
      ⟨some 26, none, .appD 3 (.t 22) (.t 25)⟩,
      ⟨some 0, none, .mov (.t 26)⟩])
    (.seq (.region [⟨some 27, none, .mov (.t 0)⟩,
      ⟨some 28, none, .mov (.t 0)⟩,
      ⟨some 29, none, .len false (.t 28)⟩,
      ⟨some 30, none, .mov (.t 7)⟩,
      ⟨some 31, none, .slcL 3 (.t 27) (some (.t 29)) (some (.t 30)) none⟩,
      ⟨none, none, .clr 3 (.agg [.int .i64 0, .nil, .nil]) (.t 31)⟩])
    (.seq (.region [⟨some 32, none, .mov (.t 0)⟩,
      ⟨some 6, none, .mov (.t 32)⟩])
    .ret))))))), [.tmp 6]⟩
theorem T_slices_Delete_api_Field_api_Field : trFn Tryz.prog [(1, [0, 0, 0, 0, 0, 905]), (5, [0, 0, 905, 0, 0, 905, 906, 0]), (6, [0, 0, 0, 0, 905, 902]), (1000005, [6, 1000002, 1000005, 2000006])] Tryz.f157 = some A_slices_Delete_api_Field_api_Field := by kernel_rfl
theorem L_slices_Delete_api_Field_api_Field : 3 ≤ Tryz.f157.ntmps := by decide

/-! cartouche/delta.along -/
def A_delta_along : AFn := ⟨(.seq (.region [⟨some 3, none, .box 0 (.t 0)⟩,
      ⟨some 6, none, .mov (.c (.int .i64 0))⟩,
      ⟨some 7, none, .mov (.c (.bool false))⟩])
    (.seq (.seq (.region [⟨some 12, none, .mov (.t 2)⟩,
      ⟨some 13, none, .len false (.t 12)⟩,
      ⟨some 14, none, .mov (.c (.int .i64 0))⟩])
    (.block 0 (.loop (.seq (.region [⟨some 15, none, .bin false .lss (.t 14) (.t 13)⟩])
    (.seq (.cond (.t 15) .skip
    (.exit 0))
    (.seq (.block 1 (.seq (.region [⟨some 16, none, .idxA 1 (.t 12) (.t 14)⟩,
      ⟨some 17, none, .load 1 false (.t 16)⟩,
      ⟨some 9, none, .mov (.t 17)⟩])
    (.seq (.region [⟨some 19, none, .fldA 0 1 false (.t 3)⟩,
      ⟨some 20, none, .load 1 false (.t 19)⟩,
      ⟨some 21, none, .mov (.t 1)⟩,
      ⟨some 22, none, .idxA 6 (.t 20) (.t 21)⟩,
      ⟨some 23, none, .load 6 true (.t 22)⟩,
      ⟨some 24, none, .mov (.t 9)⟩,
      ⟨some 25, none, .call i_table_At [.t 23, .t 24]⟩,
      ⟨some 18, none, .mov (.t 25)⟩,
      ⟨some 26, none, .ext 0 (.t 18)⟩,
      ⟨some 27, none, .ext 1 (.t 18)⟩,
      ⟨some 10, none, .alloc 0 [.str ⟨#[]⟩, .int .i64 0, .int .i64 0, .int .i64 0, .int .i64 0, .int .i64 0, .int .i64 0]⟩,
      ⟨none, none, .store 7 (.t 10) (.t 26)⟩,
      ⟨some 11, none, .mov (.t 27)⟩])
    (.seq (.seq (.region [⟨some 28, none, .mov (.t 11)⟩,
      ⟨some 29, none, .un .not (.t 28)⟩,
      ⟨some 30, none, .mov (.t 29)⟩,
      ⟨some 31, some (30, false), .load 7 true (.t 10)⟩,
      ⟨some 32, some (30, false), .call i_delta_goes [.t 31]⟩,
      ⟨some 33, some (30, false), .un .not (.t 32)⟩,
      ⟨some 34, none, .pickb (.t 30) (.c (.bool true)) (.t 33)⟩])
    (.cond (.t 34) (.seq (.region [⟨some 6, none, .mov (.c (.int .i64 0))⟩,
      ⟨some 7, none, .mov (.c (.bool false))⟩])
    .ret)
    .skip))
    (.region [⟨some 35, none, .fldA 3 1 false (.t 10)⟩,
      ⟨some 36, none, .load 1 false (.t 35)⟩,
      ⟨some 1, none, .mov (.t 36)⟩])))))
    (.region [⟨some 37, none, .bin false .add (.t 14) (.c (.int .i64 1))⟩,
      ⟨some 14, none, .mov (.t 37)⟩])))))))
    (.seq (.region [⟨some 38, none, .mov (.t 1)⟩,
      ⟨some 6, none, .mov (.t 38)⟩,
      ⟨some 7, none, .mov (.c (.bool true))⟩])
    .ret))), [.tmp 6, .tmp 7]⟩
theorem T_delta_along : trFn Tryz.prog [(0, [1, 0, 0]), (4, [0, 0, 0, 0, 0, 0, 0, 0, 0, 0, 1, 0, 0])] Tryz.f158 = some A_delta_along := by kernel_rfl
theorem L_delta_along : 3 ≤ Tryz.f158.ntmps := by decide

/-! cartouche/wire.Join -/
def A_wire_Join : AFn := ⟨(.seq (.region [⟨some 2, none, .mov (.c (.nil))⟩,
      ⟨some 3, none, .mov (.c (.int .i64 0))⟩])
    (.seq (.region [⟨some 4, none, .mov (.c (.nil))⟩])
    (.seq (.seq (.region [⟨some 9, none, .mov (.t 0)⟩,
      ⟨some 10, none, .len false (.t 9)⟩,
      ⟨some 11, none, .mov (.c (.int .i64 0))⟩])
    (.block 0 (.loop (.seq (.region [⟨some 12, none, .bin false .lss (.t 11) (.t 10)⟩])
    (.seq (.cond (.t 12) .skip
    (.exit 0))
    (.seq (.block 1 (.seq (.region [⟨some 13, none, .idxA 4 (.t 9) (.t 11)⟩,
      ⟨some 14, none, .load 4 true (.t 13)⟩,
      ⟨some 6, none, .alloc 0 [.int .i64 0, .int .i64 0, .int .u64 0, .nil]⟩,
      ⟨none, none, .store 4 (.t 6) (.t 14)⟩])
    (.seq (.region [⟨some 16, none, .load 4 true (.t 6)⟩,
      ⟨some 17, none, .call i_wire_PutEntry [.t 16]⟩,
      ⟨some 15, none, .mov (.t 17)⟩,
      ⟨some 18, none, .ext 0 (.t 15)⟩,
      ⟨some 19, none, .ext 1 (.t 15)⟩,
      ⟨some 7, none, .mov (.t 18)⟩,
      ⟨some 8, none, .mov (.t 19)⟩])
    (.seq (.seq (.region [⟨some 20, none, .mov (.t 8)⟩,
      ⟨some 21, none, .bin false .neq (.t 20) (.c (.int .i64 0))⟩])
    (.cond (.t 21) (.seq (.region [⟨some 22, none, .mov (.t 8)⟩,
      ⟨some 2, none, .mov (.c (.nil))⟩,
      ⟨some 3, none, .mov (.t 22)⟩])
    .ret)
    .skip))
    (.region [⟨some 23, none, .mov (.t 4)⟩,
      ⟨some 24, none, .mov (.t 7)⟩,
      ⟨some 25, none, .app 0 5 1 1 (.t 23) (.t 24)⟩,
      ⟨some 4, none, .mov (.t 25)⟩])))))
    (.region [⟨some 26, none, .bin false .add (.t 11) (.c (.int .i64 1))⟩,
      ⟨some 11, none, .mov (.t 26)⟩])))))))
    (.seq (.region [⟨some 27, none, .mov (.t 4)⟩,
      ⟨some 28, none, .len false (.t 27)⟩,
      ⟨some 29, none, .mks 0 5 1 1 (.int .u8 0) (.c (.int .i64 0)) (.t 28)⟩,
      ⟨some 30, none, .mov (.t 4)⟩,
      ⟨some 31, none, .app 0 5 1 1 (.t 29) (.t 30)⟩,
      ⟨some 2, none, .mov (.t 31)⟩,
      ⟨some 3, none, .mov (.c (.int .i64 0))⟩])
    .ret)))), [.tmp 2, .tmp 3]⟩
theorem T_wire_Join : trFn Tryz.prog [(4, [0, 0, 1, 0])] Tryz.f159 = some A_wire_Join := by kernel_rfl
theorem L_wire_Join : 1 ≤ Tryz.f159.ntmps := by decide

/-! cartouche/wire.PutEntry -/
def A_wire_PutEntry : AFn := ⟨(.seq (.region [⟨some 1, none, .box 0 (.t 0)⟩,
      ⟨some 2, none, .mov (.c (.nil))⟩,
      ⟨some 3, none, .mov (.c (.int .i64 0))⟩])
    (.seq (.region [⟨some 7, none, .fldA 0 1 false (.t 1)⟩,
      ⟨some 8, none, .load 1 false (.t 7)⟩,
      ⟨some 9, none, .fldA 1 1 false (.t 1)⟩,
      ⟨some 10, none, .load 1 false (.t 9)⟩,
      ⟨some 11, none, .call i_wire_PutTag [.t 8, .t 10]⟩,
      ⟨some 6, none, .mov (.t 11)⟩,
      ⟨some 12, none, .ext 0 (.t 6)⟩,
      ⟨some 13, none, .ext 1 (.t 6)⟩,
      ⟨some 4, none, .mov (.t 12)⟩,
      ⟨some 5, none, .mov (.t 13)⟩])
    (.seq (.block 0 (.seq (.region [⟨some 15, none, .mov (.t 5)⟩,
      ⟨some 16, none, .bin false .neq (.t 15) (.c (.int .i64 0))⟩,
      ⟨some 14, none, .mov (.t 16)⟩])
    (.cond (.t 14) (.seq (.region [⟨some 17, none, .mov (.t 5)⟩,
      ⟨some 2, none, .mov (.c (.nil))⟩,
      ⟨some 3, none, .mov (.t 17)⟩])
    .ret)
    (.seq (.seq (.region [⟨some 19, none, .fldA 1 1 false (.t 1)⟩,
      ⟨some 20, none, .load 1 false (.t 19)⟩,
      ⟨some 21, none, .bin false .eql (.t 20) (.c (.int .i64 5))⟩,
      ⟨some 22, none, .mov (.t 21)⟩,
      ⟨some 23, some (22, true), .fldA 2 1 false (.t 1)⟩,
      ⟨some 24, some (22, true), .load 1 false (.t 23)⟩,
      ⟨some 25, some (22, true), .bin false .shr (.t 24) (.c (.int .u64 32))⟩,
      ⟨some 26, some (22, true), .bin false .neq (.t 25) (.c (.int .u64 0))⟩,
      ⟨some 27, none, .pickb (.t 22) (.t 26) (.c (.bool false))⟩,
      ⟨some 18, none, .mov (.t 27)⟩])
    (.cond (.t 18) .skip
    (.seq (.region [⟨some 28, none, .fldA 1 1 false (.t 1)⟩,
      ⟨some 29, none, .load 1 false (.t 28)⟩,
      ⟨some 30, none, .bin false .eql (.t 29) (.c (.int .i64 2))⟩,
      ⟨some 31, none, .mov (.t 30)⟩,
      ⟨some 32, some (31, true), .fldA 2 1 false (.t 1)⟩,
      ⟨some 33, some (31, true), .load 1 false (.t 32)⟩,
      ⟨some 34, some (31, true), .bin false .neq (.t 33) (.c (.int .u64 0))⟩,
      ⟨some 35, none, .pickb (.t 31) (.t 34) (.c (.bool false))⟩,
      ⟨some 18, none, .mov (.t 35)⟩])
    (.cond (.t 18) .skip
    (.region [⟨some 36, none, .fldA 1 1 false (.t 1)⟩,
      ⟨some 37, none, .load 1 false (.t 36)⟩,
      ⟨some 38, none, .bin false .neq (.t 37) (.c (.int .i64 2))⟩,
      ⟨some 39, none, .mov (.t 38)⟩,
      ⟨some 40, some (39, true), .fldA 3 1 false (.t 1)⟩,
      ⟨some 41, some (39, true), .load 1 false (.t 40)⟩,
      ⟨some 42, some (39, true), .len false (.t 41)⟩,
      ⟨some 43, some (39, true), .bin false .gtr (.t 42) (.c (.int .i64 0))⟩,
      ⟨some 44, none, .pickb (.t 39) (.t 43) (.c (.bool false))⟩,
      ⟨some 18, none, .mov (.t 44)⟩])))))
    (.cond (.t 18) (.seq (.region [⟨some 2, none, .mov (.c (.nil))⟩,
      ⟨some 3, none, .mov (.c (.int .i64 7))⟩])
    .ret)
    .skip)))))
    (.seq (.seq (.region [⟨some 45, none, .fldA 1 1 false (.t 1)⟩,
      ⟨some 46, none, .load 1 false (.t 45)⟩])
    (.block 1 (.seq (.region [⟨some 57, none, .bin false .eql (.t 46) (.c (.int .i64 0))⟩,
      ⟨some 56, none, .mov (.t 57)⟩])
    (.cond (.t 56) (.region [⟨some 58, none, .mov (.t 4)⟩,
      ⟨some 59, none, .fldA 2 1 false (.t 1)⟩,
      ⟨some 60, none, .load 1 false (.t 59)⟩,
      ⟨some 61, none, .call i_wire_varint [.t 58, .t 60]⟩,
      ⟨some 4, none, .mov (.t 61)⟩])
    (.seq (.region [⟨some 63, none, .bin false .eql (.t 46) (.c (.int .i64 1))⟩,
      ⟨some 62, none, .mov (.t 63)⟩])
    (.cond (.t 62) (.region [⟨some 64, none, .mov (.t 4)⟩,
      ⟨some 65, none, .fldA 2 1 false (.t 1)⟩,
      ⟨some 66, none, .load 1 false (.t 65)⟩,
      ⟨some 67, none, .call i_wire_word [.t 66, .c (.int .i64 8)]⟩,
      ⟨some 68, none, .app 0 5 1 1 (.t 64) (.t 67)⟩,
      ⟨some 4, none, .mov (.t 68)⟩])
    (.seq (.region [⟨some 70, none, .bin false .eql (.t 46) (.c (.int .i64 5))⟩,
      ⟨some 69, none, .mov (.t 70)⟩])
    (.cond (.t 69) (.region [⟨some 71, none, .mov (.t 4)⟩,
      ⟨some 72, none, .fldA 2 1 false (.t 1)⟩,
      ⟨some 73, none, .load 1 false (.t 72)⟩,
      ⟨some 74, none, .call i_wire_word [.t 73, .c (.int .i64 4)]⟩,
      ⟨some 75, none, .app 0 5 1 1 (.t 71) (.t 74)⟩,
      ⟨some 4, none, .mov (.t 75)⟩])
    (.draw [2, 3, 5, 8, 1000007, 2000008] [⟨some 47, none, .mov (.t 4)⟩,
      ⟨some 48, none, .fldA 3 1 false (.t 1)⟩,
      ⟨some 49, none, .load 1 false (.t 48)⟩,
      ⟨some 50, none, .len false (.t 49)⟩,
      ⟨some 51, none, .conv .u64 (.t 50)⟩,
      ⟨some 52, none, .call i_wire_varint [.t 47, .t 51]⟩,
      ⟨some 53, none, .fldA 3 1 false (.t 1)⟩,
      ⟨some 54, none, .load 1 false (.t 53)⟩,
      ⟨some 55, none, .app 0 5 1 1 (.t 52) (.t 54)⟩,
      ⟨some 4, none, .mov (.t 55)⟩])))))))))
    (.seq (.region [⟨some 76, none, .mov (.t 4)⟩,
      ⟨some 77, none, .len false (.t 76)⟩,
      ⟨some 78, none, .mks 0 5 1 1 (.int .u8 0) (.c (.int .i64 0)) (.t 77)⟩,
      ⟨some 79, none, .mov (.t 4)⟩,
      ⟨some 80, none, .app 0 5 1 1 (.t 78) (.t 79)⟩,
      ⟨some 2, none, .mov (.t 80)⟩,
      ⟨some 3, none, .mov (.c (.int .i64 0))⟩])
    .ret))))), [.tmp 2, .tmp 3]⟩
theorem T_wire_PutEntry : trFn Tryz.prog [(0, [1, 0, 0]), (1000009, [2, 3, 5, 8, 1000007, 2000008])] Tryz.f160 = some A_wire_PutEntry := by kernel_rfl
theorem L_wire_PutEntry : 1 ≤ Tryz.f160.ntmps := by decide

/-! cartouche/wire.GetEntry -/
def A_wire_GetEntry : AFn := ⟨(.seq (.region [⟨some 4, none, .alloc 0 [.int .i64 0, .int .i64 0, .int .u64 0, .nil]⟩,
      ⟨some 5, none, .mov (.c (.int .i64 0))⟩,
      ⟨some 6, none, .mov (.c (.int .i64 0))⟩])
    (.seq (.seq (.region [⟨some 8, none, .mov (.t 0)⟩,
      ⟨some 9, none, .mov (.t 1)⟩,
      ⟨some 10, none, .call i_wire_GetTag [.t 8, .t 9]⟩,
      ⟨some 7, none, .mov (.t 10)⟩,
      ⟨some 11, none, .ext 0 (.t 7)⟩,
      ⟨some 12, none, .ext 1 (.t 7)⟩,
      ⟨some 13, none, .ext 2 (.t 7)⟩,
      ⟨some 14, none, .ext 3 (.t 7)⟩,
      ⟨some 15, none, .fldA 0 1 false (.t 4)⟩,
      ⟨none, none, .store 1 (.t 15) (.t 11)⟩,
      ⟨some 16, none, .fldA 1 1 false (.t 4)⟩,
      ⟨none, none, .store 1 (.t 16) (.t 12)⟩,
      ⟨some 5, none, .mov (.t 13)⟩,
      ⟨some 6, none, .mov (.t 14)⟩])
    (.seq (.region [⟨some 17, none, .mov (.t 6)⟩,
      ⟨some 18, none, .bin false .neq (.t 17) (.c (.int .i64 0))⟩])
    (.cond (.t 18) (.seq (.region [⟨some 19, none, .build [.int .i64 0, .int .i64 0, .int .u64 0, .nil] []⟩,
      ⟨some 20, none, .mov (.t 6)⟩,
      ⟨none, none, .store 4 (.t 4) (.t 19)⟩,
      ⟨some 5, none, .mov (.c (.int .i64 0))⟩,
      ⟨some 6, none, .mov (.t 20)⟩])
    .ret)
    .skip)))
    (.seq (.seq (.region [⟨some 21, none, .fldA 1 1 false (.t 4)⟩,
      ⟨some 22, none, .load 1 false (.t 21)⟩])
    (.block 0 (.seq (.region [⟨some 32, none, .bin false .eql (.t 22) (.c (.int .i64 0))⟩,
      ⟨some 31, none, .mov (.t 32)⟩])
    (.cond (.t 31) (.region [⟨some 34, none, .mov (.t 0)⟩,
      ⟨some 35, none, .mov (.t 5)⟩,
      ⟨some 36, none, .call i_wire_GetVarint [.t 34, .t 35]⟩,
      ⟨some 33, none, .mov (.t 36)⟩,
      ⟨some 37, none, .ext 0 (.t 33)⟩,
      ⟨some 38, none, .ext 1 (.t 33)⟩,
      ⟨some 39, none, .ext 2 (.t 33)⟩,
      ⟨some 40, none, .fldA 2 1 false (.t 4)⟩,
      ⟨none, none, .store 1 (.t 40) (.t 37)⟩,
      ⟨some 5, none, .mov (.t 38)⟩,
      ⟨some 6, none, .mov (.t 39)⟩])
    (.seq (.region [⟨some 42, none, .bin false .eql (.t 22) (.c (.int .i64 1))⟩,
      ⟨some 41, none, .mov (.t 42)⟩])
    (.cond (.t 41) (.region [⟨some 44, none, .mov (.t 0)⟩,
      ⟨some 45, none, .mov (.t 5)⟩,
      ⟨some 46, none, .call i_wire_read [.t 44, .t 45, .c (.int .i64 8)]⟩,
      ⟨some 43, none, .mov (.t 46)⟩,
      ⟨some 47, none, .ext 0 (.t 43)⟩,
      ⟨some 48, none, .ext 1 (.t 43)⟩,
      ⟨some 49, none, .ext 2 (.t 43)⟩,
      ⟨some 50, none, .fldA 2 1 false (.t 4)⟩,
      ⟨none, none, .store 1 (.t 50) (.t 47)⟩,
      ⟨some 5, none, .mov (.t 48)⟩,
      ⟨some 6, none, .mov (.t 49)⟩])
    (.seq (.region [⟨some 52, none, .bin false .eql (.t 22) (.c (.int .i64 5))⟩,
      ⟨some 51, none, .mov (.t 52)⟩])
    (.cond (.t 51) (.region [⟨some 54, none, .mov (.t 0)⟩,
      ⟨some 55, none, .mov (.t 5)⟩,
      ⟨some 56, none, .call i_wire_read [.t 54, .t 55, .c (.int .i64 4)]⟩,
      ⟨some 53, none, .mov (.t 56)⟩,
      ⟨some 57, none, .ext 0 (.t 53)⟩,
      ⟨some 58, none, .ext 1 (.t 53)⟩,
      ⟨some 59, none, .ext 2 (.t 53)⟩,
      ⟨some 60, none, .fldA 2 1 false (.t 4)⟩,
      ⟨none, none, .store 1 (.t 60) (.t 57)⟩,
      ⟨some 5, none, .mov (.t 58)⟩,
      ⟨some 6, none, .mov (.t 59)⟩])
    (.region [⟨some 24, none, .mov (.t 0)⟩,
      ⟨some 25, none, .mov (.t 5)⟩,
      ⟨some 26, none, .call i_wire_GetChunk [.t 24, .t 25]⟩,
      ⟨some 23, none, .mov (.t 26)⟩,
      ⟨some 27, none, .ext 0 (.t 23)⟩,
      ⟨some 28, none, .ext 1 (.t 23)⟩,
      ⟨some 29, none, .ext 2 (.t 23)⟩,
      ⟨some 30, none, .fldA 3 1 false (.t 4)⟩,
      ⟨none, none, .store 1 (.t 30) (.t 27)⟩,
      ⟨some 5, none, .mov (.t 28)⟩,
      ⟨some 6, none, .mov (.t 29)⟩])))))))))
    (.seq (.seq (.region [⟨some 61, none, .mov (.t 6)⟩,
      ⟨some 62, none, .bin false .neq (.t 61) (.c (.int .i64 0))⟩])
    (.cond (.t 62) (.seq (.region [⟨some 63, none, .build [.int .i64 0, .int .i64 0, .int .u64 0, .nil] []⟩,
      ⟨some 64, none, .mov (.t 6)⟩,
      ⟨none, none, .store 4 (.t 4) (.t 63)⟩,
      ⟨some 5, none, .mov (.c (.int .i64 0))⟩,
      ⟨some 6, none, .mov (.t 64)⟩])
    .ret)
    .skip))
    (.seq (.region [⟨some 65, none, .load 4 true (.t 4)⟩,
      ⟨some 66, none, .mov (.t 5)⟩,
      ⟨none, none, .store 4 (.t 4) (.t 65)⟩,
      ⟨some 5, none, .mov (.t 66)⟩,
      ⟨some 6, none, .mov (.c (.int .i64 0))⟩])
    .ret))))), [.cell 4 4 true, .tmp 5, .tmp 6]⟩
theorem T_wire_GetEntry : trFn Tryz.prog [(0, [1, 0, 0])] Tryz.f161 = some A_wire_GetEntry := by kernel_rfl
theorem L_wire_GetEntry : 2 ≤ Tryz.f161.ntmps := by decide

/-! cartouche/delta.numbers -/
def A_delta_numbers : AFn := ⟨(.seq (.region [⟨some 2, none, .mov (.c (.nil))⟩,
      ⟨some 3, none, .mov (.c (.bool false))⟩])
    (.seq (.region [⟨some 4, none, .mov (.c (.nil))⟩])
    (.seq (.seq (.region [⟨some 5, none, .mov (.c (.int .i64 0))⟩])
    (.block 0 (.loop (.seq (.seq (.region [⟨some 9, none, .mov (.t 5)⟩,
      ⟨some 10, none, .mov (.t 0)⟩,
      ⟨some 11, none, .len false (.t 10)⟩,
      ⟨some 12, none, .bin false .lss (.t 9) (.t 11)⟩])
    (.cond (.t 12) .skip
    (.exit 0)))
    (.block 1 (.seq (.region [⟨some 14, none, .mov (.t 0)⟩,
      ⟨some 15, none, .mov (.t 5)⟩,
      ⟨some 16, none, .call i_wire_GetVarint [.t 14, .t 15]⟩,
      ⟨some 13, none, .mov (.t 16)⟩,
      ⟨some 17, none, .ext 0 (.t 13)⟩,
      ⟨some 18, none, .ext 1 (.t 13)⟩,
      ⟨some 19, none, .ext 2 (.t 13)⟩,
      ⟨some 6, none, .mov (.t 17)⟩,
      ⟨some 7, none, .mov (.t 18)⟩,
      ⟨some 8, none, .mov (.t 19)⟩])
    (.seq (.seq (.region [⟨some 20, none, .mov (.t 8)⟩,
      ⟨some 21, none, .bin false .neq (.t 20) (.c (.int .i64 0))⟩,
      ⟨some 22, none, .mov (.t 21)⟩,
      ⟨some 23, some (22, false), .mov (.t 6)⟩,
      ⟨some 24, some (22, false), .bin false .gtr (.t 23) (.c (.int .u64 536870911))⟩,
      ⟨some 25, none, .pickb (.t 22) (.c (.bool true)) (.t 24)⟩])
    (.cond (.t 25) (.seq (.region [⟨some 2, none, .mov (.c (.nil))⟩,
      ⟨some 3, none, .mov (.c (.bool false))⟩])
    .ret)
    .skip))
    (.region [⟨some 26, none, .mov (.t 4)⟩,
      ⟨some 27, none, .mov (.t 6)⟩,
      ⟨some 28, none, .conv .i64 (.t 27)⟩,
      ⟨some 29, none, .blit 0 3 1 [.t 28]⟩,
      ⟨some 30, none, .app 0 3 1 8 (.t 26) (.t 29)⟩,
      ⟨some 31, none, .mov (.t 7)⟩,
      ⟨some 4, none, .mov (.t 30)⟩,
      ⟨some 5, none, .mov (.t 31)⟩]))))))))
    (.seq (.region [⟨some 32, none, .mov (.t 4)⟩,
      ⟨some 33, none, .call i_delta_ints [.t 32]⟩,
      ⟨some 2, none, .mov (.t 33)⟩,
      ⟨some 3, none, .mov (.c (.bool true))⟩])
    .ret)))), [.tmp 2, .tmp 3]⟩
theorem T_delta_numbers : trFn Tryz.prog [(7, [0, 0, 0, 1, 0, 0, 0, 0])] Tryz.f162 = some A_delta_numbers := by kernel_rfl
theorem L_delta_numbers : 1 ≤ Tryz.f162.ntmps := by decide

/-! cartouche/wire.varint -/
def A_wire_varint : AFn := ⟨(.seq (.region [⟨some 4, none, .mov (.c (.nil))⟩])
    (.seq (.block 0 (.loop (.seq (.seq (.region [⟨some 5, none, .mov (.t 1)⟩,
      ⟨some 6, none, .bin false .geq (.t 5) (.c (.int .u64 128))⟩])
    (.cond (.t 6) .skip
    (.exit 0)))
    (.block 1 (.seq (.region [⟨some 7, none, .mov (.t 0)⟩,
      ⟨some 8, none, .mov (.t 1)⟩,
      ⟨some 9, none, .conv .u8 (.t 8)⟩,
      ⟨some 10, none, .bin false .or (.t 9) (.c (.int .u8 128))⟩,
      ⟨some 11, none, .blit 0 5 1 [.t 10]⟩,
      ⟨some 12, none, .app 0 5 1 1 (.t 7) (.t 11)⟩,
      ⟨some 0, none, .mov (.t 12)⟩])
    (.region [⟨some 13, none, .mov (.t 1)⟩,
      ⟨some 14, none, .bin false .shr (.t 13) (.c (.int .u64 7))⟩,
      ⟨some 1, none, .mov (.t 14)⟩]))))))
    (.seq (.region [⟨some 15, none, .mov (.t 0)⟩,
      ⟨some 16, none, .mov (.t 1)⟩,
      ⟨some 17, none, .conv .u8 (.t 16)⟩,
      ⟨some 18, none, .blit 0 5 1 [.t 17]⟩,
      ⟨some 19, none, .app 0 5 1 1 (.t 15) (.t 18)⟩,
      ⟨some 4, none, .mov (.t 19)⟩])
    .ret))), [.tmp 4]⟩
theorem T_wire_varint : trFn Tryz.prog [(2, [0, 0, 0, 0, 1, 0, 0]), (4, [0, 0, 0, 1, 0, 0])] Tryz.f163 = some A_wire_varint := by kernel_rfl
theorem L_wire_varint : 2 ≤ Tryz.f163.ntmps := by decide

/-! cartouche/wire.Size -/
def A_wire_Size : AFn := ⟨(.seq (.region [⟨some 2, none, .mov (.c (.int .i64 0))⟩])
    (.seq (.region [⟨some 3, none, .mov (.t 0)⟩,
      ⟨some 4, none, .call i_bits_Len64 [.t 3]⟩,
      ⟨some 5, none, .mm true (.c (.int .i64 1)) (.t 4)⟩,
      ⟨some 6, none, .bin false .add (.t 5) (.c (.int .i64 7))⟩,
      ⟨some 7, none, .bin false .sub (.t 6) (.c (.int .i64 1))⟩,
      ⟨some 8, none, .bin false .quo (.t 7) (.c (.int .i64 7))⟩,
      ⟨some 2, none, .mov (.t 8)⟩])
    .ret)), [.tmp 2]⟩
theorem T_wire_Size : trFn Tryz.prog [] Tryz.f164 = some A_wire_Size := by kernel_rfl
theorem L_wire_Size : 1 ≤ Tryz.f164.ntmps := by decide

/-! cartouche/wire.word -/
def A_wire_word : AFn := ⟨(.seq (.region [⟨some 4, none, .mov (.c (.nil))⟩])
    (.seq (.region [⟨some 7, none, .mov (.t 1)⟩,
      ⟨some 8, none, .mks 0 5 1 1 (.int .u8 0) (.c (.int .i64 0)) (.t 7)⟩,
      ⟨some 5, none, .mov (.t 8)⟩])
    (.seq (.seq (.region [⟨some 9, none, .mov (.t 1)⟩,
      ⟨some 10, none, .mov (.c (.int .i64 0))⟩])
    (.block 0 (.loop (.seq (.region [⟨some 11, none, .bin false .lss (.t 10) (.t 9)⟩])
    (.seq (.cond (.t 11) .skip
    (.exit 0))
    (.seq (.block 1 (.seq (.region [⟨some 12, none, .mov (.t 10)⟩,
      ⟨some 6, none, .mov (.t 12)⟩])
    (.region [⟨some 13, none, .mov (.t 5)⟩,
      ⟨some 14, none, .mov (.t 0)⟩,
      ⟨some 15, none, .mov (.t 6)⟩,
      ⟨some 16, none, .bin false .mul (.c (.int .i64 8)) (.t 15)⟩,
      ⟨some 17, none, .bin false .shr (.t 14) (.t 16)⟩,
      ⟨some 18, none, .conv .u8 (.t 17)⟩,
      ⟨some 19, none, .blit 0 5 1 [.t 18]⟩,
      ⟨some 20, none, .app 0 5 1 1 (.t 13) (.t 19)⟩,
      ⟨some 5, none, .mov (.t 20)⟩])))
    (.region [⟨some 21, none, .bin false .add (.t 10) (.c (.int .i64 1))⟩,
      ⟨some 10, none, .mov (.t 21)⟩])))))))
    (.seq (.region [⟨some 22, none, .mov (.t 5)⟩,
      ⟨some 4, none, .mov (.t 22)⟩])
    .ret)))), [.tmp 4]⟩
theorem T_wire_word : trFn Tryz.prog [(5, [0, 0, 0, 0, 0, 0, 1, 0, 0])] Tryz.f165 = some A_wire_word := by kernel_rfl
theorem L_wire_word : 2 ≤ Tryz.f165.ntmps := by decide

/-! cartouche/wire.GetVarint -/
def A_wire_GetVarint : AFn := ⟨(.seq (.region [⟨some 4, none, .mov (.c (.int .u64 0))⟩,
      ⟨some 5, none, .mov (.c (.int .i64 0))⟩,
      ⟨some 6, none, .mov (.c (.int .i64 0))⟩])
    (.scope (.seq (.seq (.region [⟨some 9, none, .mov (.t 0)⟩,
      ⟨some 10, none, .mov (.t 1)⟩,
      ⟨some 11, none, .call i_wire_place [.t 9, .t 10]⟩,
      ⟨some 12, none, .un .not (.t 11)⟩])
    (.cond (.t 12) (.seq (.region [⟨some 4, none, .mov (.c (.int .u64 0))⟩,
      ⟨some 5, none, .mov (.c (.int .i64 0))⟩,
      ⟨some 6, none, .mov (.c (.int .i64 18))⟩])
    .ret)
    .skip))
    (.seq .label
    (.seq (.seq (.region [⟨some 13, none, .mov (.c (.int .i64 0))⟩])
    (.block 0 (.loop (.seq (.region [⟨some 14, none, .bin false .lss (.t 13) (.c (.int .i64 10))⟩])
    (.seq (.cond (.t 14) .skip
    (.exit 0))
    (.seq (.block 1 (.seq (.region [⟨some 15, none, .mov (.t 13)⟩,
      ⟨some 7, none, .mov (.t 15)⟩])
    (.seq (.seq (.region [⟨some 16, none, .mov (.t 1)⟩,
      ⟨some 17, none, .mov (.t 7)⟩,
      ⟨some 18, none, .bin false .add (.t 16) (.t 17)⟩,
      ⟨some 19, none, .mov (.t 0)⟩,
      ⟨some 20, none, .len false (.t 19)⟩,
      ⟨some 21, none, .bin false .eql (.t 18) (.t 20)⟩])
    (.cond (.t 21) (.exit 0)
    .skip))
    (.seq (.region [⟨some 22, none, .mov (.t 0)⟩,
      ⟨some 23, none, .mov (.t 1)⟩,
      ⟨some 24, none, .mov (.t 7)⟩,
      ⟨some 25, none, .bin false .add (.t 23) (.t 24)⟩,
      ⟨some 26, none, .idxA 1 (.t 22) (.t 25)⟩,
      ⟨some 27, none, .load 1 false (.t 26)⟩,
      ⟨some 8, none, .mov (.t 27)⟩])
    (.seq (.seq (.region [⟨some 28, none, .mov (.t 7)⟩,
      ⟨some 29, none, .bin false .eql (.t 28) (.c (.int .i64 9))⟩,
      ⟨some 30, none, .mov (.t 29)⟩,
      ⟨some 31, some (30, true), .mov (.t 8)⟩,
      ⟨some 32, some (30, true), .bin false .gtr (.t 31) (.c (.int .u8 1))⟩,
      ⟨some 33, none, .pickb (.t 30) (.t 32) (.c (.bool false))⟩])
    (.cond (.t 33) (.seq (.region [⟨some 4, none, .mov (.c (.int .u64 0))⟩,
      ⟨some 5, none, .mov (.c (.int .i64 0))⟩,
      ⟨some 6, none, .mov (.c (.int .i64 4))⟩])
    .ret)
    .skip))
    (.seq (.region [⟨some 34, none, .mov (.t 4)⟩,
      ⟨some 35, none, .mov (.t 8)⟩,
      ⟨some 36, none, .bin false .and (.t 35) (.c (.int .u8 127))⟩,
      ⟨some 37, none, .conv .u64 (.t 36)⟩,
      ⟨some 38, none, .mov (.t 7)⟩,
      ⟨some 39, none, .bin false .mul (.c (.int .i64 7)) (.t 38)⟩,
      ⟨some 40, none, .bin false .shl (.t 37) (.t 39)⟩,
      ⟨some 41, none, .bin false .or (.t 34) (.t 40)⟩,
      ⟨some 4, none, .mov (.t 41)⟩])
    (.seq (.region [⟨some 42, none, .mov (.t 8)⟩,
      ⟨some 43, none, .bin false .lss (.t 42) (.c (.int .u8 128))⟩])
    (.cond (.t 43) (.seq (.region [⟨some 44, none, .mov (.t 4)⟩,
      ⟨some 45, none, .mov (.t 1)⟩,
      ⟨some 46, none, .mov (.t 7)⟩,
      ⟨some 47, none, .bin false .add (.t 45) (.t 46)⟩,
      ⟨some 48, none, .bin false .add (.t 47) (.c (.int .i64 1))⟩,
      ⟨some 4, none, .mov (.t 44)⟩,
      ⟨some 5, none, .mov (.t 48)⟩,
      ⟨some 6, none, .mov (.c (.int .i64 0))⟩])
    .ret)
    .skip))))))))
    (.region [⟨some 49, none, .bin false .add (.t 13) (.c (.int .i64 1))⟩,
      ⟨some 13, none, .mov (.t 49)⟩])))))))
    (.seq (.region [⟨some 4, none, .mov (.c (.int .u64 0))⟩,
      ⟨some 5, none, .mov (.c (.int .i64 0))⟩,
      ⟨some 6, none, .mov (.c (.int .i64 3))⟩])
    .ret)))))), [.tmp 4, .tmp 5, .tmp 6]⟩
theorem T_wire_GetVarint : trFn Tryz.prog [] Tryz.f166 = some A_wire_GetVarint := by kernel_rfl
theorem L_wire_GetVarint : 2 ≤ Tryz.f166.ntmps := by decide

/-! cartouche/wire.GetFix32 -/
def A_wire_GetFix32 : AFn := ⟨(.seq (.region [⟨some 4, none, .mov (.c (.int .u32 0))⟩,
      ⟨some 5, none, .mov (.c (.int .i64 0))⟩,
      ⟨some 6, none, .mov (.c (.int .i64 0))⟩])
    (.seq (.region [⟨some 9, none, .mov (.t 0)⟩,
      ⟨some 10, none, .mov (.t 1)⟩,
      ⟨some 11, none, .call i_wire_read [.t 9, .t 10, .c (.int .i64 4)]⟩,
      ⟨some 8, none, .mov (.t 11)⟩,
      ⟨some 12, none, .ext 0 (.t 8)⟩,
      ⟨some 13, none, .ext 1 (.t 8)⟩,
      ⟨some 14, none, .ext 2 (.t 8)⟩,
      ⟨some 7, none, .mov (.t 12)⟩,
      ⟨some 5, none, .mov (.t 13)⟩,
      ⟨some 6, none, .mov (.t 14)⟩])
    (.seq (.region [⟨some 15, none, .mov (.t 7)⟩,
      ⟨some 16, none, .conv .u32 (.t 15)⟩,
      ⟨some 17, none, .mov (.t 5)⟩,
      ⟨some 18, none, .mov (.t 6)⟩,
      ⟨some 4, none, .mov (.t 16)⟩,
      ⟨some 5, none, .mov (.t 17)⟩,
      ⟨some 6, none, .mov (.t 18)⟩])
    .ret))), [.tmp 4, .tmp 5, .tmp 6]⟩
theorem T_wire_GetFix32 : trFn Tryz.prog [] Tryz.f167 = some A_wire_GetFix32 := by kernel_rfl
theorem L_wire_GetFix32 : 2 ≤ Tryz.f167.ntmps := by decide

/-! slices.EqualFunc[[]cartouche/api.Msg,[]cartouche/api.Msg,cartouche/api.Msg,cartouche/api.Msg] -/
def A_slices_EqualFunc_api_Msg_api_Msg_api_Msg_api_Msg : AFn := ⟨(.seq (.region [⟨some 6, none, .mov (.c (.bool false))⟩])
    (.seq (.seq (.region [⟨some 10, none, .mov (.t 0)⟩,
      ⟨some 11, none, .len false (.t 10)⟩,
      ⟨some 12, none, .mov (.t 1)⟩,
      ⟨some 13, none, .len false (.t 12)⟩,
      ⟨some 14, none, .bin false .neq (.t 11) (.t 13)⟩])
    (.cond (.t 14) (.seq (.region [⟨some 6, none, .mov (.c (.bool false))⟩])
    .ret)
    .skip))
    (.seq (.seq (.region [⟨some 15, none, .mov (.t 0)⟩,
      ⟨some 16, none, .len false (.t 15)⟩,
      ⟨some 17, none, .mov (.c (.int .i64 0))⟩])
    (.block 0 (.loop (.seq (.region [⟨some 18, none, .bin false .lss (.t 17) (.t 16)⟩])
    (.seq (.cond (.t 18) .skip
    (.exit 0))
    (.seq (.block 1 (.seq (.region [⟨some 19, none, .mov (.t 17)⟩,
      ⟨some 20, none, .idxA 2 (.t 15) (.t 17)⟩,
      ⟨some 21, none, .load 2 true (.t 20)⟩,
      ⟨some 8, none, .alloc 0 [.nil, .nil]⟩,
      ⟨some 7, none, .mov (.t 19)⟩,
      ⟨none, none, .store 2 (.t 8) (.t 21)⟩])
    (.seq (.region [⟨some 22, none, .mov (.t 1)⟩,
      ⟨some 23, none, .mov (.t 7)⟩,
      ⟨some 24, none, .idxA 2 (.t 22) (.t 23)⟩,
      ⟨some 25, none, .load 2 true (.t 24)⟩,
      ⟨some 9, none, .alloc 0 [.nil, .nil]⟩,
      ⟨none, none, .store 2 (.t 9) (.t 25)⟩])
    (.seq (.region [⟨some 26, none, .mov (.t 2)⟩,
      ⟨some 27, none, .load 2 true (.t 8)⟩,
      ⟨some 28, none, .load 2 true (.t 9)⟩,
      ⟨some 29, none, .callv (.t 26) [.t 27, .t 28]⟩,
      ⟨some 30, none, .un .not (.t 29)⟩])
    (.cond (.t 30) (.seq (.region [⟨some 6, none, .mov (.c (.bool false))⟩])
    .ret)
    .skip)))))
    (.region [⟨some 31, none, .bin false .add (.t 17) (.c (.int .i64 1))⟩,
      ⟨some 17, none, .mov (.t 31)⟩])))))))
    (.seq (.region [⟨some 6, none, .mov (.c (.bool true))⟩])
    .ret)))), [.tmp 6]⟩
theorem T_slices_EqualFunc_api_Msg_api_Msg_api_Msg_api_Msg : trFn Tryz.prog [(5, [0, 0, 0, 1, 0, 0]), (6, [0, 0, 0, 0, 1, 0])] Tryz.f171 = some A_slices_EqualFunc_api_Msg_api_Msg_api_Msg_api_Msg := by kernel_rfl
theorem L_slices_EqualFunc_api_Msg_api_Msg_api_Msg_api_Msg : 3 ≤ Tryz.f171.ntmps := by decide

/-! cartouche/table.sort -/
def A_table_sort : AFn := ⟨(.seq (.region [⟨some 3, none, .box 0 (.t 0)⟩,
      ⟨some 6, none, .mov (.c (.bool false))⟩])
    (.seq (.region [⟨some 7, none, .mov (.t 1)⟩,
      ⟨some 8, none, .bin false .geq (.t 7) (.c (.int .i64 0))⟩,
      ⟨some 9, none, .mov (.t 8)⟩,
      ⟨some 10, some (9, true), .mov (.t 1)⟩,
      ⟨some 11, some (9, true), .fldA 0 1 false (.t 3)⟩,
      ⟨some 12, some (9, true), .load 1 false (.t 11)⟩,
      ⟨some 13, some (9, true), .len false (.t 12)⟩,
      ⟨some 14, some (9, true), .bin false .lss (.t 10) (.t 13)⟩,
      ⟨some 15, none, .pickb (.t 9) (.t 14) (.c (.bool false))⟩,
      ⟨some 16, none, .mov (.t 15)⟩,
      ⟨some 17, some (16, true), .fldA 0 1 false (.t 3)⟩,
      ⟨some 18, some (16, true), .load 1 false (.t 17)⟩,
      ⟨some 19, some (16, true), .mov (.t 1)⟩,
      ⟨some 20, some (16, true), .idxA 6 (.t 18) (.t 19)⟩,
      ⟨some 21, some (16, true), .fldA 1 1 false (.t 20)⟩,
      ⟨some 22, some (16, true), .load 1 false (.t 21)⟩,
      ⟨some 23, some (16, true), .mov (.t 2)⟩,
      ⟨some 24, some (16, true), .bin true .eql (.t 22) (.t 23)⟩,
      ⟨some 25, none, .pickb (.t 16) (.t 24) (.c (.bool false))⟩,
      ⟨some 6, none, .mov (.t 25)⟩])
    .ret)), [.tmp 6]⟩
theorem T_table_sort : trFn Tryz.prog [(0, [1, 0])] Tryz.f172 = some A_table_sort := by kernel_rfl
theorem L_table_sort : 3 ≤ Tryz.f172.ntmps := by decide

/-! cartouche/model.typedField -/
def A_model_typedField : AFn := ⟨(.seq (.region [⟨some 3, none, .box 0 (.t 0)⟩,
      ⟨some 4, none, .box 0 (.t 1)⟩,
      ⟨some 5, none, .box 0 (.t 2)⟩,
      ⟨some 6, none, .mov (.c (.bool false))⟩])
    (.seq (.seq (.region [⟨some 11, none, .fldA 4 1 false (.t 4)⟩,
      ⟨some 12, none, .load 1 false (.t 11)⟩])
    (.block 0 (.seq (.seq (.region [⟨some 18, none, .bin false .eql (.t 12) (.c (.int .i64 0))⟩,
      ⟨some 17, none, .mov (.t 18)⟩])
    (.cond (.t 17) .skip
    (.seq (.region [⟨some 19, none, .bin false .eql (.t 12) (.c (.int .i64 1))⟩,
      ⟨some 17, none, .mov (.t 19)⟩])
    (.cond (.t 17) .skip
    (.region [⟨some 20, none, .bin false .eql (.t 12) (.c (.int .i64 4))⟩,
      ⟨some 17, none, .mov (.t 20)⟩])))))
    (.cond (.t 17) (.seq (.region [⟨some 21, none, .fldA 2 1 false (.t 5)⟩,
      ⟨some 22, none, .load 1 false (.t 21)⟩,
      ⟨some 23, none, .len false (.t 22)⟩,
      ⟨some 24, none, .bin false .neq (.t 23) (.c (.int .i64 1))⟩,
      ⟨some 25, none, .mov (.t 24)⟩,
      ⟨some 26, some (25, false), .fldA 1 1 false (.t 5)⟩,
      ⟨some 27, some (25, false), .load 1 false (.t 26)⟩,
      ⟨some 28, some (25, false), .len false (.t 27)⟩,
      ⟨some 29, some (25, false), .bin false .gtr (.t 28) (.c (.int .i64 0))⟩,
      ⟨some 30, none, .pickb (.t 25) (.c (.bool true)) (.t 29)⟩])
    (.cond (.t 30) (.seq (.region [⟨some 6, none, .mov (.c (.bool false))⟩])
    .ret)
    .skip))
    (.seq (.region [⟨some 32, none, .bin false .eql (.t 12) (.c (.int .i64 5))⟩,
      ⟨some 31, none, .mov (.t 32)⟩])
    (.cond (.t 31) (.seq (.seq (.region [⟨some 33, none, .fldA 1 1 false (.t 5)⟩,
      ⟨some 34, none, .load 1 false (.t 33)⟩,
      ⟨some 35, none, .len false (.t 34)⟩,
      ⟨some 36, none, .fldA 2 1 false (.t 5)⟩,
      ⟨some 37, none, .load 1 false (.t 36)⟩,
      ⟨some 38, none, .len false (.t 37)⟩,
      ⟨some 39, none, .bin false .neq (.t 35) (.t 38)⟩])
    (.cond (.t 39) (.seq (.region [⟨some 6, none, .mov (.c (.bool false))⟩])
    .ret)
    .skip))
    (.seq (.region [⟨some 40, none, .fldA 1 1 false (.t 5)⟩,
      ⟨some 41, none, .load 1 false (.t 40)⟩,
      ⟨some 42, none, .len false (.t 41)⟩,
      ⟨some 43, none, .mov (.c (.int .i64 0))⟩])
    (.block 1 (.loop (.seq (.region [⟨some 44, none, .bin false .lss (.t 43) (.t 42)⟩])
    (.seq (.cond (.t 44) .skip
    (.exit 1))
    (.seq (.block 2 (.seq (.region [⟨some 45, none, .mov (.t 43)⟩,
      ⟨some 46, none, .idxA 3 (.t 41) (.t 43)⟩,
      ⟨some 47, none, .load 3 true (.t 46)⟩,
      ⟨some 8, none, .alloc 0 [.int .u64 0, .nil, .nil]⟩,
      ⟨some 7, none, .mov (.t 45)⟩,
      ⟨none, none, .store 3 (.t 8) (.t 47)⟩])
    (.seq (.seq (.region [⟨some 48, none, .load 1 true (.t 3)⟩,
      ⟨some 49, none, .fldA 6 1 false (.t 4)⟩,
      ⟨some 50, none, .load 1 false (.t 49)⟩,
      ⟨some 51, none, .load 3 true (.t 8)⟩,
      ⟨some 52, none, .call i_model_typedVal [.t 48, .t 50, .c (.int .i64 0), .t 51]⟩,
      ⟨some 53, none, .un .not (.t 52)⟩])
    (.cond (.t 53) (.seq (.region [⟨some 6, none, .mov (.c (.bool false))⟩])
    .ret)
    .skip))
    (.seq (.region [⟨some 54, none, .mov (.t 7)⟩,
      ⟨some 55, none, .bin false .gtr (.t 54) (.c (.int .i64 0))⟩])
    (.cond (.t 55) (.seq (.draw [1, 9, 1000003, 1000006, 1000007, 1000008, 2000009] [⟨some 57, none, .fldA 6 1 false (.t 4)⟩,
      ⟨some 58, none, .load 1 false (.t 57)⟩,
      ⟨some 59, none, .fldA 1 1 false (.t 5)⟩,
      ⟨some 60, none, .load 1 false (.t 59)⟩,
      ⟨some 61, none, .mov (.t 7)⟩,
      ⟨some 62, none, .bin false .sub (.t 61) (.c (.int .i64 1))⟩,
      ⟨some 63, none, .idxA 3 (.t 60) (.t 62)⟩,
      ⟨some 64, none, .load 3 true (.t 63)⟩,
      ⟨some 65, none, .load 3 true (.t 8)⟩,
      ⟨some 66, none, .call i_scalar_Compare [.t 58, .t 64, .t 65]⟩,
      ⟨some 56, none, .mov (.t 66)⟩,
      ⟨some 67, none, .ext 0 (.t 56)⟩,
      ⟨some 68, none, .ext 1 (.t 56)⟩,
      ⟨some 9, none, .mov (.t 67)⟩,
      ⟨some 10, none, .mov (.t 68)⟩])
    (.seq (.region [⟨some 69, none, .mov (.t 9)⟩,
      ⟨some 70, none, .bin false .geq (.t 69) (.c (.int .i64 0))⟩])
    (.cond (.t 70) (.seq (.region [⟨some 6, none, .mov (.c (.bool false))⟩])
    .ret)
    .skip)))
    .skip)))))
    (.region [⟨some 71, none, .bin false .add (.t 43) (.c (.int .i64 1))⟩,
      ⟨some 43, none, .mov (.t 71)⟩]))))))))
    (.seq (.region [⟨some 13, none, .fldA 1 1 false (.t 5)⟩,
      ⟨some 14, none, .load 1 false (.t 13)⟩,
      ⟨some 15, none, .len false (.t 14)⟩,
      ⟨some 16, none, .bin false .gtr (.t 15) (.c (.int .i64 0))⟩])
    (.cond (.t 16) (.seq (.region [⟨some 6, none, .mov (.c (.bool false))⟩])
    .ret)
    .skip))))))))
    (.seq (.region [⟨some 72, none, .fldA 2 1 false (.t 5)⟩,
      ⟨some 73, none, .load 1 false (.t 72)⟩,
      ⟨some 74, none, .mkfn (.func 218) [] [.t 3, .t 4]⟩,
      ⟨some 75, none, .call i_slices_ContainsFunc_api_Val_api_Val [.t 73, .t 74]⟩,
      ⟨some 76, none, .un .not (.t 75)⟩,
      ⟨some 6, none, .mov (.t 76)⟩])
    .ret))), [.tmp 6]⟩
theorem T_model_typedField : trFn Tryz.prog [(0, [1, 1, 1, 0]), (14, [0, 0, 0, 1, 0, 0]), (1000018, [1, 9, 1000003, 1000006, 1000007, 1000008, 2000009])] Tryz.f173 = some A_model_typedField := by kernel_rfl
theorem L_model_typedField : 3 ≤ Tryz.f173.ntmps := by decide

/-! slices.ContainsFunc[[]cartouche/api.Val,cartouche/api.Val] -/
def A_slices_ContainsFunc_api_Val_api_Val : AFn := ⟨(.seq (.region [⟨some 4, none, .mov (.c (.bool false))⟩])
    (.seq (.region [⟨some 5, none, .mov (.t 0)⟩,
      ⟨some 6, none, .mov (.t 1)⟩,
      ⟨some 7, none, .call i_slices_IndexFunc_api_Val_api_Val [.t 5, .t 6]⟩,
      ⟨some 8, none, .bin false .geq (.t 7) (.c (.int .i64 0))⟩,
      ⟨some 4, none, .mov (.t 8)⟩])
    .ret)), [.tmp 4]⟩
theorem T_slices_ContainsFunc_api_Val_api_Val : trFn Tryz.prog [] Tryz.f174 = some A_slices_ContainsFunc_api_Val_api_Val := by kernel_rfl
theorem L_slices_ContainsFunc_api_Val_api_Val : 2 ≤ Tryz.f174.ntmps := by decide

/-! cartouche/model.normal$1 -/
def A_model_normal_1 : AFn := ⟨(.seq (.region [⟨some 3, none, .box 0 (.t 0)⟩,
      ⟨some 4, none, .mov (.c (.bool false))⟩])
    (.seq (.draw [0, 7, 1000002, 1000004, 1000005, 1000006, 2000007] [⟨some 5, none, .load 1 true (.t 1)⟩,
      ⟨some 6, none, .fldA 3 1 false (.t 2)⟩,
      ⟨some 7, none, .load 1 false (.t 6)⟩,
      ⟨some 8, none, .fldA 2 1 false (.t 3)⟩,
      ⟨some 9, none, .load 1 false (.t 8)⟩,
      ⟨some 10, none, .idxA 2 (.t 9) (.c (.int .i64 0))⟩,
      ⟨some 11, none, .load 2 true (.t 10)⟩,
      ⟨some 12, none, .call i_model_normal [.t 5, .t 7, .t 11]⟩,
      ⟨some 13, none, .un .not (.t 12)⟩,
      ⟨some 4, none, .mov (.t 13)⟩])
    .ret)), [.tmp 4]⟩
theorem T_model_normal_1 : trFn Tryz.prog [(0, [1, 0]), (1000001, [0, 7, 1000002, 1000004, 1000005, 1000006, 2000007])] Tryz.f175 = some A_model_normal_1 := by kernel_rfl
theorem L_model_normal_1 : 3 ≤ Tryz.f175.ntmps := by decide

/-! slices.ContainsFunc[[]cartouche/api.Entry,cartouche/api.Entry] -/
def A_slices_ContainsFunc_api_Entry_api_Entry : AFn := ⟨(.seq (.region [⟨some 4, none, .mov (.c (.bool false))⟩])
    (.seq (.region [⟨some 5, none, .mov (.t 0)⟩,
      ⟨some 6, none, .mov (.t 1)⟩,
      ⟨some 7, none, .call i_slices_IndexFunc_api_Entry_api_Entry [.t 5, .t 6]⟩,
      ⟨some 8, none, .bin false .geq (.t 7) (.c (.int .i64 0))⟩,
      ⟨some 4, none, .mov (.t 8)⟩])
    .ret)), [.tmp 4]⟩
theorem T_slices_ContainsFunc_api_Entry_api_Entry : trFn Tryz.prog [] Tryz.f176 = some A_slices_ContainsFunc_api_Entry_api_Entry := by kernel_rfl
theorem L_slices_ContainsFunc_api_Entry_api_Entry : 2 ≤ Tryz.f176.ntmps := by decide

/-! cartouche/model.normal$2 -/
def A_model_normal_2 : AFn := ⟨(.seq (.region [⟨some 2, none, .box 0 (.t 0)⟩,
      ⟨some 3, none, .mov (.c (.bool false))⟩])
    (.seq (.region [⟨some 4, none, .load 6 true (.t 1)⟩,
      ⟨some 5, none, .load 4 true (.t 2)⟩,
      ⟨some 6, none, .call i_model_Taken [.t 4, .t 5]⟩,
      ⟨some 3, none, .mov (.t 6)⟩])
    .ret)), [.tmp 3]⟩
theorem T_model_normal_2 : trFn Tryz.prog [(0, [1, 0])] Tryz.f177 = some A_model_normal_2 := by kernel_rfl
theorem L_model_normal_2 : 2 ≤ Tryz.f177.ntmps := by decide

/-! cartouche/model.Nothing -/
def A_model_Nothing : AFn := ⟨(.seq (.region [⟨some 1, none, .box 0 (.t 0)⟩,
      ⟨some 2, none, .mov (.c (.bool false))⟩])
    (.seq (.region [⟨some 3, none, .fldA 0 1 false (.t 1)⟩,
      ⟨some 4, none, .load 1 false (.t 3)⟩,
      ⟨some 5, none, .bin false .eql (.t 4) (.c (.int .u64 0))⟩,
      ⟨some 6, none, .mov (.t 5)⟩,
      ⟨some 7, some (6, true), .fldA 1 1 false (.t 1)⟩,
      ⟨some 8, some (6, true), .load 1 false (.t 7)⟩,
      ⟨some 9, some (6, true), .len false (.t 8)⟩,
      ⟨some 10, some (6, true), .bin false .eql (.t 9) (.c (.int .i64 0))⟩,
      ⟨some 11, none, .pickb (.t 6) (.t 10) (.c (.bool false))⟩,
      ⟨some 12, none, .mov (.t 11)⟩,
      ⟨some 13, some (12, true), .fldA 2 1 false (.t 1)⟩,
      ⟨some 14, some (12, true), .load 1 false (.t 13)⟩,
      ⟨some 15, some (12, true), .len false (.t 14)⟩,
      ⟨some 16, some (12, true), .bin false .eql (.t 15) (.c (.int .i64 0))⟩,
      ⟨some 17, none, .pickb (.t 12) (.t 16) (.c (.bool false))⟩,
      ⟨some 2, none, .mov (.t 17)⟩])
    .ret)), [.tmp 2]⟩
theorem T_model_Nothing : trFn Tryz.prog [(0, [1, 0])] Tryz.f178 = some A_model_Nothing := by kernel_rfl
theorem L_model_Nothing : 1 ≤ Tryz.f178.ntmps := by decide

/-! slices.IndexFunc[[]cartouche/api.Entry,cartouche/api.Entry] -/
def A_slices_IndexFunc_api_Entry_api_Entry : AFn := ⟨(.seq (.region [⟨some 4, none, .mov (.c (.int .i64 0))⟩])
    (.seq (.seq (.region [⟨some 6, none, .mov (.t 0)⟩,
      ⟨some 7, none, .len false (.t 6)⟩,
      ⟨some 8, none, .mov (.c (.int .i64 0))⟩])
    (.block 0 (.loop (.seq (.region [⟨some 9, none, .bin false .lss (.t 8) (.t 7)⟩])
    (.seq (.cond (.t 9) .skip
    (.exit 0))
    (.seq (.block 1 (.seq (.region [⟨some 10, none, .mov (.t 8)⟩,
      ⟨some 5, none, .mov (.t 10)⟩])
    (.seq (.region [⟨some 11, none, .mov (.t 1)⟩,
      ⟨some 12, none, .mov (.t 0)⟩,
      ⟨some 13, none, .mov (.t 5)⟩,
      ⟨some 14, none, .idxA 4 (.t 12) (.t 13)⟩,
      ⟨some 15, none, .load 4 true (.t 14)⟩,
      ⟨some 16, none, .callv (.t 11) [.t 15]⟩])
    (.cond (.t 16) (.seq (.region [⟨some 17, none, .mov (.t 5)⟩,
      ⟨some 4, none, .mov (.t 17)⟩])
    .ret)
    .skip))))
    (.region [⟨some 18, none, .bin false .add (.t 8) (.c (.int .i64 1))⟩,
      ⟨some 8, none, .mov (.t 18)⟩])))))))
    (.seq (.region [⟨some 4, none, .mov (.c (.int .i64 (-1)))⟩])
    .ret))), [.tmp 4]⟩
theorem T_slices_IndexFunc_api_Entry_api_Entry : trFn Tryz.prog [] Tryz.f179 = some A_slices_IndexFunc_api_Entry_api_Entry := by kernel_rfl
theorem L_slices_IndexFunc_api_Entry_api_Entry : 2 ≤ Tryz.f179.ntmps := by decide

/-! cartouche/table.How -/
def A_table_How : AFn := ⟨(.seq (.region [⟨some 2, none, .box 0 (.t 0)⟩,
      ⟨some 4, none, .mov (.c (.int .i64 0))⟩])
    (.seq (.block 0 (.seq (.region [⟨some 6, none, .mov (.t 1)⟩,
      ⟨some 7, none, .load 7 true (.t 2)⟩,
      ⟨some 8, none, .call i_table_Wire [.t 7]⟩,
      ⟨some 9, none, .bin false .eql (.t 6) (.t 8)⟩,
      ⟨some 5, none, .mov (.t 9)⟩])
    (.cond (.t 5) (.seq (.region [⟨some 4, none, .mov (.c (.int .i64 1))⟩])
    .ret)
    (.seq (.region [⟨some 11, none, .mov (.t 1)⟩,
      ⟨some 12, none, .bin false .eql (.t 11) (.c (.int .i64 2))⟩,
      ⟨some 13, none, .mov (.t 12)⟩,
      ⟨some 14, some (13, true), .load 7 true (.t 2)⟩,
      ⟨some 15, some (13, true), .call i_table_HasRow [.t 14]⟩,
      ⟨some 16, none, .pickb (.t 13) (.t 15) (.c (.bool false))⟩,
      ⟨some 10, none, .mov (.t 16)⟩])
    (.cond (.t 10) (.seq (.region [⟨some 4, none, .mov (.c (.int .i64 2))⟩])
    .ret)
    .skip)))))
    (.seq (.region [⟨some 4, none, .mov (.c (.int .i64 0))⟩])
    .ret))), [.tmp 4]⟩
theorem T_table_How : trFn Tryz.prog [(0, [1, 0])] Tryz.f180 = some A_table_How := by kernel_rfl
theorem L_table_How : 2 ≤ Tryz.f180.ntmps := by decide

/-! cartouche/model.each[cartouche/api.Val] -/
def A_model_each_api_Val : AFn := ⟨(.seq (.region [⟨some 4, none, .mov (.c (.nil))⟩])
    (.seq (.region [⟨some 8, none, .mov (.t 0)⟩,
      ⟨some 9, none, .len false (.t 8)⟩,
      ⟨some 10, none, .mks 0 26 3 56 (.agg [.int .u64 0, .nil, .nil]) (.c (.int .i64 0)) (.t 9)⟩,
      ⟨some 5, none, .mov (.t 10)⟩])
    (.seq (.seq (.region [⟨some 11, none, .mov (.t 0)⟩,
      ⟨some 12, none, .len false (.t 11)⟩,
      ⟨some 13, none, .mov (.c (.int .i64 0))⟩])
    (.block 0 (.loop (.seq (.region [⟨some 14, none, .bin false .lss (.t 13) (.t 12)⟩])
    (.seq (.cond (.t 14) .skip
    (.exit 0))
    (.seq (.block 1 (.seq (.region [⟨some 15, none, .idxA 3 (.t 11) (.t 13)⟩,
      ⟨some 16, none, .load 3 true (.t 15)⟩,
      ⟨some 7, none, .alloc 0 [.int .u64 0, .nil, .nil]⟩,
      ⟨none, none, .store 3 (.t 7) (.t 16)⟩])
    (.region [⟨some 17, none, .mov (.t 5)⟩,
      ⟨some 18, none, .mov (.t 1)⟩,
      ⟨some 19, none, .load 3 true (.t 7)⟩,
      ⟨some 20, none, .callv (.t 18) [.t 19]⟩,
      ⟨some 21, none, .blit 0 26 3 [.t 20]⟩,
      ⟨some 22, none, .app 0 26 3 56 (.t 17) (.t 21)⟩,
      ⟨some 5, none, .mov (.t 22)⟩])))
    (.region [⟨some 23, none, .bin false .add (.t 13) (.c (.int .i64 1))⟩,
      ⟨some 13, none, .mov (.t 23)⟩])))))))
    (.seq (.region [⟨some 24, none, .mov (.t 5)⟩,
      ⟨some 4, none, .mov (.t 24)⟩])
    .ret)))), [.tmp 4]⟩
theorem T_model_each_api_Val : trFn Tryz.prog [(4, [0, 0, 1, 0]), (5, [0, 0, 0, 0, 1, 0, 0])] Tryz.f181 = some A_model_each_api_Val := by kernel_rfl
theorem L_model_each_api_Val : 2 ≤ Tryz.f181.ntmps := by decide

/-! cartouche/model.CopyVal -/
def A_model_CopyVal : AFn := ⟨(.seq (.region [⟨some 1, none, .box 0 (.t 0)⟩,
      ⟨some 2, none, .alloc 0 [.int .u64 0, .nil, .nil]⟩])
    (.seq (.draw [3, 4, 7, 8, 9, 1000001, 1000006, 2000008, 2000009] [⟨some 3, none, .fldA 0 1 false (.t 1)⟩,
      ⟨some 4, none, .load 1 false (.t 3)⟩,
      ⟨some 5, none, .fldA 1 1 false (.t 1)⟩,
      ⟨some 6, none, .load 1 false (.t 5)⟩,
      ⟨some 7, none, .call i_model_list [.t 6]⟩,
      ⟨some 8, none, .fldA 2 1 false (.t 1)⟩,
      ⟨some 9, none, .load 1 false (.t 8)⟩,
      ⟨some 10, none, .call i_model_each_api_Msg [.t 9, .c (.fn (.func 68) [] [])]⟩,
      ⟨some 11, none, .build [.int .u64 0, .nil, .nil] [(0, 1, .t 4), (1, 1, .t 7), (2, 1, .t 10)]⟩,
      ⟨none, none, .store 3 (.t 2) (.t 11)⟩])
    .ret)), [.cell 2 3 true]⟩
theorem T_model_CopyVal : trFn Tryz.prog [(0, [1, 1]), (1000001, [3, 4, 7, 8, 9, 1000001, 1000006, 2000008, 2000009])] Tryz.f182 = some A_model_CopyVal := by kernel_rfl
theorem L_model_CopyVal : 1 ≤ Tryz.f182.ntmps := by decide

/-! cartouche/model.list -/
def A_model_list : AFn := ⟨(.seq (.region [⟨some 2, none, .mov (.c (.nil))⟩])
    (.seq (.region [⟨some 3, none, .mov (.t 0)⟩,
      ⟨some 4, none, .len false (.t 3)⟩,
      ⟨some 5, none, .mks 0 5 1 1 (.int .u8 0) (.c (.int .i64 0)) (.t 4)⟩,
      ⟨some 6, none, .mov (.t 0)⟩,
      ⟨some 7, none, .app 0 5 1 1 (.t 5) (.t 6)⟩,
      ⟨some 2, none, .mov (.t 7)⟩])
    .ret)), [.tmp 2]⟩
theorem T_model_list : trFn Tryz.prog [] Tryz.f183 = some A_model_list := by kernel_rfl
theorem L_model_list : 1 ≤ Tryz.f183.ntmps := by decide

/-! cartouche/model.Others -/
def A_model_Others : AFn := ⟨(.seq (.region [⟨some 2, none, .box 0 (.t 0)⟩,
      ⟨some 4, none, .mov (.c (.nil))⟩])
    (.seq (.region [⟨some 5, none, .mov (.c (.nil))⟩])
    (.seq (.seq (.region [⟨some 8, none, .fldA 2 1 false (.t 2)⟩,
      ⟨some 9, none, .load 1 false (.t 8)⟩,
      ⟨some 10, none, .len false (.t 9)⟩,
      ⟨some 11, none, .mov (.c (.int .i64 0))⟩])
    (.block 0 (.loop (.seq (.region [⟨some 12, none, .bin false .lss (.t 11) (.t 10)⟩])
    (.seq (.cond (.t 12) .skip
    (.exit 0))
    (.seq (.block 1 (.seq (.region [⟨some 13, none, .idxA 7 (.t 9) (.t 11)⟩,
      ⟨some 14, none, .load 7 true (.t 13)⟩,
      ⟨some 7, none, .alloc 0 [.str ⟨#[]⟩, .int .i64 0, .int .i64 0, .int .i64 0, .int .i64 0, .int .i64 0, .int .i64 0]⟩,
      ⟨none, none, .store 7 (.t 7) (.t 14)⟩])
    (.seq (.region [⟨some 15, none, .fldA 4 1 false (.t 7)⟩,
      ⟨some 16, none, .load 1 false (.t 15)⟩,
      ⟨some 17, none, .bin false .eql (.t 16) (.c (.int .i64 4))⟩,
      ⟨some 18, none, .mov (.t 17)⟩,
      ⟨some 19, some (18, true), .fldA 5 1 false (.t 7)⟩,
      ⟨some 20, some (18, true), .load 1 false (.t 19)⟩,
      ⟨some 21, some (18, true), .mov (.t 1)⟩,
      ⟨some 22, some (18, true), .bin false .eql (.t 20) (.t 21)⟩,
      ⟨some 23, none, .pickb (.t 18) (.t 22) (.c (.bool false))⟩])
    (.cond (.t 23) (.region [⟨some 24, none, .mov (.t 5)⟩,
      ⟨some 25, none, .fldA 1 1 false (.t 7)⟩,
      ⟨some 26, none, .load 1 false (.t 25)⟩,
      ⟨some 27, none, .blit 0 3 1 [.t 26]⟩,
      ⟨some 28, none, .app 0 3 1 8 (.t 24) (.t 27)⟩,
      ⟨some 5, none, .mov (.t 28)⟩])
    .skip))))
    (.region [⟨some 29, none, .bin false .add (.t 11) (.c (.int .i64 1))⟩,
      ⟨some 11, none, .mov (.t 29)⟩])))))))
    (.seq (.region [⟨some 30, none, .mov (.t 5)⟩,
      ⟨some 4, none, .mov (.t 30)⟩])
    .ret)))), [.tmp 4]⟩
theorem T_model_Others : trFn Tryz.prog [(0, [1, 0]), (4, [0, 0, 1, 0]), (6, [0, 0, 0, 1, 0, 0])] Tryz.f184 = some A_model_Others := by kernel_rfl
theorem L_model_Others : 2 ≤ Tryz.f184.ntmps := by decide

/-! slices.Contains[[]int,int] -/
def A_slices_Contains_int_int : AFn := ⟨(.seq (.region [⟨some 4, none, .mov (.c (.bool false))⟩])
    (.seq (.region [⟨some 5, none, .mov (.t 0)⟩,
      ⟨some 6, none, .mov (.t 1)⟩,
      ⟨some 7, none, .call i_slices_Index_int_int [.t 5, .t 6]⟩,
      ⟨some 8, none, .bin false .geq (.t 7) (.c (.int .i64 0))⟩,
      ⟨some 4, none, .mov (.t 8)⟩])
    .ret)), [.tmp 4]⟩
theorem T_slices_Contains_int_int : trFn Tryz.prog [] Tryz.f186 = some A_slices_Contains_int_int := by kernel_rfl
theorem L_slices_Contains_int_int : 2 ≤ Tryz.f186.ntmps := by decide

/-! cartouche/model.Place -/
def A_model_Place : AFn := ⟨(.seq (.region [⟨some 4, none, .mov (.c (.int .i64 0))⟩,
      ⟨some 5, none, .mov (.c (.bool false))⟩])
    (.seq (.region [⟨some 6, none, .mov (.t 0)⟩,
      ⟨some 7, none, .mov (.t 1)⟩,
      ⟨some 8, none, .call i_slices_BinarySearchFunc_api_Field_api_Field_int [.t 6, .t 7, .c (.fn (.func 224) [] [])]⟩,
      ⟨some 9, none, .ext 0 (.t 8)⟩,
      ⟨some 10, none, .ext 1 (.t 8)⟩,
      ⟨some 4, none, .mov (.t 9)⟩,
      ⟨some 5, none, .mov (.t 10)⟩])
    .ret)), [.tmp 4, .tmp 5]⟩
theorem T_model_Place : trFn Tryz.prog [] Tryz.f187 = some A_model_Place := by kernel_rfl
theorem L_model_Place : 2 ≤ Tryz.f187.ntmps := by decide

/-! cartouche/table.Wire -/
def A_table_Wire : AFn := ⟨(.seq (.region [⟨some 1, none, .box 0 (.t 0)⟩,
      ⟨some 2, none, .mov (.c (.int .i64 0))⟩])
    (.seq (.seq (.region [⟨some 5, none, .fldA 4 1 false (.t 1)⟩,
      ⟨some 6, none, .load 1 false (.t 5)⟩,
      ⟨some 7, none, .bin false .eql (.t 6) (.c (.int .i64 5))⟩])
    (.cond (.t 7) (.seq (.region [⟨some 2, none, .mov (.c (.int .i64 2))⟩])
    .ret)
    .skip))
    (.seq (.region [⟨some 9, none, .fldA 2 1 false (.t 1)⟩,
      ⟨some 10, none, .load 1 false (.t 9)⟩,
      ⟨some 11, none, .call i_scalar_Wire [.t 10]⟩,
      ⟨some 8, none, .mov (.t 11)⟩,
      ⟨some 12, none, .ext 0 (.t 8)⟩,
      ⟨some 13, none, .ext 1 (.t 8)⟩,
      ⟨some 3, none, .mov (.t 12)⟩,
      ⟨some 4, none, .mov (.t 13)⟩])
    (.seq (.region [⟨some 14, none, .mov (.t 3)⟩,
      ⟨some 2, none, .mov (.t 14)⟩])
    .ret)))), [.tmp 2]⟩
theorem T_table_Wire : trFn Tryz.prog [(0, [1, 0])] Tryz.f192 = some A_table_Wire := by kernel_rfl
theorem L_table_Wire : 1 ≤ Tryz.f192.ntmps := by decide

/-! cartouche/interp.value -/
def A_interp_value : AFn := ⟨(.seq (.region [⟨some 6, none, .box 0 (.t 1)⟩,
      ⟨some 9, none, .box 0 (.t 4)⟩,
      ⟨some 10, none, .mov (.c (.nil))⟩])
    (.seq (.seq (.region [⟨some 13, none, .mov (.t 2)⟩,
      ⟨some 14, none, .bin false .eql (.t 13) (.c (.int .i64 17))⟩])
    (.cond (.t 14) (.seq (.draw [1, 7, 8, 9, 1000004, 1000005, 1000006, 2000007, 2000008, 2000009] [⟨some 15, none, .mov (.t 0)⟩,
      ⟨some 16, none, .load 1 true (.t 6)⟩,
      ⟨some 17, none, .mov (.t 3)⟩,
      ⟨some 18, none, .fldA 2 1 false (.t 9)⟩,
      ⟨some 19, none, .load 1 false (.t 18)⟩,
      ⟨some 20, none, .idxA 2 (.t 19) (.c (.int .i64 0))⟩,
      ⟨some 21, none, .load 2 true (.t 20)⟩,
      ⟨some 22, none, .call i_interp_written [.t 16, .t 17, .t 21]⟩,
      ⟨some 23, none, .call i_wire_PutChunk [.t 22]⟩,
      ⟨some 24, none, .app 0 5 1 1 (.t 15) (.t 23)⟩,
      ⟨some 10, none, .mov (.t 24)⟩])
    .ret)
    .skip))
    (.seq (.region [⟨some 26, none, .mov (.t 2)⟩,
      ⟨some 27, none, .load 3 true (.t 9)⟩,
      ⟨some 28, none, .call i_scalar_Put [.t 26, .t 27]⟩,
      ⟨some 25, none, .mov (.t 28)⟩,
      ⟨some 29, none, .ext 0 (.t 25)⟩,
      ⟨some 30, none, .ext 1 (.t 25)⟩,
      ⟨some 11, none, .mov (.t 29)⟩,
      ⟨some 12, none, .mov (.t 30)⟩])
    (.seq (.region [⟨some 31, none, .mov (.t 0)⟩,
      ⟨some 32, none, .mov (.t 11)⟩,
      ⟨some 33, none, .app 0 5 1 1 (.t 31) (.t 32)⟩,
      ⟨some 10, none, .mov (.t 33)⟩])
    .ret)))), [.tmp 10]⟩
theorem T_interp_value : trFn Tryz.prog [(0, [1, 1, 0]), (1000002, [1, 7, 8, 9, 1000004, 1000005, 1000006, 2000007, 2000008, 2000009])] Tryz.f193 = some A_interp_value := by kernel_rfl
theorem L_interp_value : 5 ≤ Tryz.f193.ntmps := by decide

/-! cartouche/interp.tagged -/
def A_interp_tagged : AFn := ⟨(.seq (.region [⟨some 6, none, .mov (.c (.nil))⟩])
    (.seq (.region [⟨some 10, none, .mov (.t 1)⟩,
      ⟨some 11, none, .mov (.t 2)⟩,
      ⟨some 12, none, .call i_wire_PutTag [.t 10, .t 11]⟩,
      ⟨some 9, none, .mov (.t 12)⟩,
      ⟨some 13, none, .ext 0 (.t 9)⟩,
      ⟨some 14, none, .ext 1 (.t 9)⟩,
      ⟨some 7, none, .mov (.t 13)⟩,
      ⟨some 8, none, .mov (.t 14)⟩])
    (.seq (.region [⟨some 15, none, .mov (.t 0)⟩,
      ⟨some 16, none, .mov (.t 7)⟩,
      ⟨some 17, none, .app 0 5 1 1 (.t 15) (.t 16)⟩,
      ⟨some 6, none, .mov (.t 17)⟩])
    .ret))), [.tmp 6]⟩
theorem T_interp_tagged : trFn Tryz.prog [] Tryz.f194 = some A_interp_tagged := by kernel_rfl
theorem L_interp_tagged : 3 ≤ Tryz.f194.ntmps := by decide

/-! cartouche/wire.PutChunk -/
def A_wire_PutChunk : AFn := ⟨(.seq (.region [⟨some 2, none, .mov (.c (.nil))⟩])
    (.seq (.region [⟨some 4, none, .mov (.t 0)⟩,
      ⟨some 5, none, .len false (.t 4)⟩,
      ⟨some 6, none, .conv .u64 (.t 5)⟩,
      ⟨some 3, none, .mov (.t 6)⟩])
    (.seq (.region [⟨some 7, none, .mov (.t 3)⟩,
      ⟨some 8, none, .call i_wire_Size [.t 7]⟩,
      ⟨some 9, none, .mov (.t 0)⟩,
      ⟨some 10, none, .len false (.t 9)⟩,
      ⟨some 11, none, .bin false .add (.t 8) (.t 10)⟩,
      ⟨some 12, none, .mks 0 5 1 1 (.int .u8 0) (.c (.int .i64 0)) (.t 11)⟩,
      ⟨some 13, none, .mov (.t 3)⟩,
      ⟨some 14, none, .call i_wire_varint [.t 12, .t 13]⟩,
      ⟨some 15, none, .mov (.t 0)⟩,
      ⟨some 16, none, .app 0 5 1 1 (.t 14) (.t 15)⟩,
      ⟨some 2, none, .mov (.t 16)⟩])
    .ret))), [.tmp 2]⟩
theorem T_wire_PutChunk : trFn Tryz.prog [] Tryz.f195 = some A_wire_PutChunk := by kernel_rfl
theorem L_wire_PutChunk : 1 ≤ Tryz.f195.ntmps := by decide

/-! cartouche/scalar.Wire -/
def A_scalar_Wire : AFn := ⟨(.seq (.region [⟨some 2, none, .mov (.c (.int .i64 0))⟩,
      ⟨some 3, none, .mov (.c (.int .i64 0))⟩])
    (.seq (.seq (.region [⟨some 4, none, .mov (.t 0)⟩])
    (.block 0 (.seq (.seq (.region [⟨some 6, none, .bin false .eql (.t 4) (.c (.int .i64 1))⟩,
      ⟨some 5, none, .mov (.t 6)⟩])
    (.cond (.t 5) .skip
    (.seq (.region [⟨some 7, none, .bin false .eql (.t 4) (.c (.int .i64 2))⟩,
      ⟨some 5, none, .mov (.t 7)⟩])
    (.cond (.t 5) .skip
    (.seq (.region [⟨some 8, none, .bin false .eql (.t 4) (.c (.int .i64 3))⟩,
      ⟨some 5, none, .mov (.t 8)⟩])
    (.cond (.t 5) .skip
    (.seq (.region [⟨some 9, none, .bin false .eql (.t 4) (.c (.int .i64 4))⟩,
      ⟨some 5, none, .mov (.t 9)⟩])
    (.cond (.t 5) .skip
    (.seq (.region [⟨some 10, none, .bin false .eql (.t 4) (.c (.int .i64 5))⟩,
      ⟨some 5, none, .mov (.t 10)⟩])
    (.cond (.t 5) .skip
    (.seq (.region [⟨some 11, none, .bin false .eql (.t 4) (.c (.int .i64 6))⟩,
      ⟨some 5, none, .mov (.t 11)⟩])
    (.cond (.t 5) .skip
    (.seq (.region [⟨some 12, none, .bin false .eql (.t 4) (.c (.int .i64 7))⟩,
      ⟨some 5, none, .mov (.t 12)⟩])
    (.cond (.t 5) .skip
    (.region [⟨some 13, none, .bin false .eql (.t 4) (.c (.int .i64 16))⟩,
      ⟨some 5, none, .mov (.t 13)⟩])))))))))))))))
    (.cond (.t 5) (.seq (.region [⟨some 2, none, .mov (.c (.int .i64 0))⟩,
      ⟨some 3, none, .mov (.c (.int .i64 0))⟩])
    .ret)
    (.seq (.seq (.region [⟨some 15, none, .bin false .eql (.t 4) (.c (.int .i64 8))⟩,
      ⟨some 14, none, .mov (.t 15)⟩])
    (.cond (.t 14) .skip
    (.seq (.region [⟨some 16, none, .bin false .eql (.t 4) (.c (.int .i64 10))⟩,
      ⟨some 14, none, .mov (.t 16)⟩])
    (.cond (.t 14) .skip
    (.region [⟨some 17, none, .bin false .eql (.t 4) (.c (.int .i64 12))⟩,
      ⟨some 14, none, .mov (.t 17)⟩])))))
    (.cond (.t 14) (.seq (.region [⟨some 2, none, .mov (.c (.int .i64 5))⟩,
      ⟨some 3, none, .mov (.c (.int .i64 0))⟩])
    .ret)
    (.seq (.seq (.region [⟨some 19, none, .bin false .eql (.t 4) (.c (.int .i64 9))⟩,
      ⟨some 18, none, .mov (.t 19)⟩])
    (.cond (.t 18) .skip
    (.seq (.region [⟨some 20, none, .bin false .eql (.t 4) (.c (.int .i64 11))⟩,
      ⟨some 18, none, .mov (.t 20)⟩])
    (.cond (.t 18) .skip
    (.region [⟨some 21, none, .bin false .eql (.t 4) (.c (.int .i64 13))⟩,
      ⟨some 18, none, .mov (.t 21)⟩])))))
    (.cond (.t 18) (.seq (.region [⟨some 2, none, .mov (.c (.int .i64 1))⟩,
      ⟨some 3, none, .mov (.c (.int .i64 0))⟩])
    .ret)
    (.seq (.seq (.region [⟨some 23, none, .bin false .eql (.t 4) (.c (.int .i64 14))⟩,
      ⟨some 22, none, .mov (.t 23)⟩])
    (.cond (.t 22) .skip
    (.seq (.region [⟨some 24, none, .bin false .eql (.t 4) (.c (.int .i64 15))⟩,
      ⟨some 22, none, .mov (.t 24)⟩])
    (.cond (.t 22) .skip
    (.region [⟨some 25, none, .bin false .eql (.t 4) (.c (.int .i64 17))⟩,
      ⟨some 22, none, .mov (.t 25)⟩])))))
    (.cond (.t 22) (.seq (.region [⟨some 2, none, .mov (.c (.int .i64 2))⟩,
      ⟨some 3, none, .mov (.c (.int .i64 0))⟩])
    .ret)
    .skip))))))))))
    (.seq (.region [⟨some 2, none, .mov (.c (.int .i64 0))⟩,
      ⟨some 3, none, .mov (.c (.int .i64 18))⟩])
    .ret))), [.tmp 2, .tmp 3]⟩
theorem T_scalar_Wire : trFn Tryz.prog [] Tryz.f196 = some A_scalar_Wire := by kernel_rfl
theorem L_scalar_Wire : 1 ≤ Tryz.f196.ntmps := by decide

/-! (*cartouche/interp.cursor).tag -/
def A_interp_cursor_tag : AFn := ⟨(.seq (.region [⟨some 2, none, .mov (.c (.int .i64 0))⟩,
      ⟨some 3, none, .mov (.c (.int .i64 0))⟩])
    (.seq (.draw [3, 8, 1000007, 2000008] [⟨some 7, none, .mov (.t 0)⟩,
      ⟨some 8, none, .nilck (.t 7)⟩,
      ⟨some 9, none, .fldA 0 1 false (.t 8)⟩,
      ⟨some 10, none, .load 1 false (.t 9)⟩,
      ⟨some 11, none, .mov (.t 0)⟩,
      ⟨some 12, none, .nilck (.t 11)⟩,
      ⟨some 13, none, .fldA 1 1 false (.t 12)⟩,
      ⟨some 14, none, .load 1 false (.t 13)⟩,
      ⟨some 15, none, .call i_wire_GetTag [.t 10, .t 14]⟩,
      ⟨some 6, none, .mov (.t 15)⟩,
      ⟨some 16, none, .ext 0 (.t 6)⟩,
      ⟨some 17, none, .ext 1 (.t 6)⟩,
      ⟨some 18, none, .ext 2 (.t 6)⟩,
      ⟨some 19, none, .ext 3 (.t 6)⟩,
      ⟨some 2, none, .mov (.t 16)⟩,
      ⟨some 3, none, .mov (.t 17)⟩,
      ⟨some 4, none, .mov (.t 18)⟩,
      ⟨some 5, none, .mov (.t 19)⟩])
    (.seq (.region [⟨some 20, none, .mov (.t 5)⟩,
      ⟨some 21, none, .call i_interp_must [.t 20]⟩])
    (.seq (.region [⟨some 22, none, .mov (.t 0)⟩,
      ⟨some 23, none, .mov (.t 4)⟩,
      ⟨some 24, none, .nilck (.t 22)⟩,
      ⟨some 25, none, .fldA 1 1 false (.t 24)⟩,
      ⟨none, none, .store 1 (.t 25) (.t 23)⟩])
    (.seq (.region [⟨some 26, none, .mov (.t 2)⟩,
      ⟨some 27, none, .mov (.t 3)⟩,
      ⟨some 2, none, .mov (.t 26)⟩,
      ⟨some 3, none, .mov (.t 27)⟩])
    .ret))))), [.tmp 2, .tmp 3]⟩
theorem T_interp_cursor_tag : trFn Tryz.prog [(1000001, [3, 8, 1000007, 2000008])] Tryz.f197 = some A_interp_cursor_tag := by kernel_rfl
theorem L_interp_cursor_tag : 1 ≤ Tryz.f197.ntmps := by decide

/-! (*cartouche/interp.cursor).put -/
def A_interp_cursor_put : AFn := ⟨(.seq (.region [⟨some 7, none, .box 0 (.t 1)⟩,
      ⟨some 9, none, .box 0 (.t 3)⟩])
    (.seq (.region [⟨some 22, none, .fldA 4 1 false (.t 9)⟩,
      ⟨some 23, none, .load 1 false (.t 22)⟩])
    (.block 0 (.seq (.seq (.region [⟨some 41, none, .bin false .eql (.t 23) (.c (.int .i64 0))⟩,
      ⟨some 40, none, .mov (.t 41)⟩])
    (.cond (.t 40) .skip
    (.region [⟨some 42, none, .bin false .eql (.t 23) (.c (.int .i64 1))⟩,
      ⟨some 40, none, .mov (.t 42)⟩])))
    (.cond (.t 40) (.seq (.region [⟨some 43, none, .build [.int .u64 0, .nil, .nil] []⟩,
      ⟨some 12, none, .alloc 0 [.int .u64 0, .nil, .nil]⟩,
      ⟨none, none, .store 3 (.t 12) (.t 43)⟩])
    (.seq (.seq (.region [⟨some 44, none, .fldA 2 1 false (.t 9)⟩,
      ⟨some 45, none, .load 1 false (.t 44)⟩,
      ⟨some 46, none, .bin false .eql (.t 45) (.c (.int .i64 17))⟩])
    (.cond (.t 46) (.seq (.region [⟨some 47, none, .build [.nil, .nil] []⟩,
      ⟨some 13, none, .alloc 0 [.nil, .nil]⟩,
      ⟨none, none, .store 2 (.t 13) (.t 47)⟩])
    (.seq (.seq (.draw [3, 6, 1000005, 2000006] [⟨some 49, none, .mov (.t 5)⟩,
      ⟨some 50, none, .nilck (.t 49)⟩,
      ⟨some 51, none, .fldA 0 1 false (.t 50)⟩,
      ⟨some 52, none, .load 1 false (.t 51)⟩,
      ⟨some 53, none, .fldA 1 1 false (.t 9)⟩,
      ⟨some 54, none, .load 1 false (.t 53)⟩,
      ⟨some 55, none, .call i_model_Place [.t 52, .t 54]⟩,
      ⟨some 48, none, .mov (.t 55)⟩,
      ⟨some 56, none, .ext 0 (.t 48)⟩,
      ⟨some 57, none, .ext 1 (.t 48)⟩,
      ⟨some 14, none, .mov (.t 56)⟩,
      ⟨some 15, none, .mov (.t 57)⟩])
    (.seq (.region [⟨some 58, none, .mov (.t 15)⟩])
    (.cond (.t 58) (.region [⟨some 59, none, .mov (.t 5)⟩,
      ⟨some 60, none, .nilck (.t 59)⟩,
      ⟨some 61, none, .fldA 0 1 false (.t 60)⟩,
      ⟨some 62, none, .load 1 false (.t 61)⟩,
      ⟨some 63, none, .mov (.t 14)⟩,
      ⟨some 64, none, .idxA 3 (.t 62) (.t 63)⟩,
      ⟨some 65, none, .fldA 2 1 false (.t 64)⟩,
      ⟨some 66, none, .load 1 false (.t 65)⟩,
      ⟨some 67, none, .idxA 3 (.t 66) (.c (.int .i64 0))⟩,
      ⟨some 68, none, .fldA 2 1 false (.t 67)⟩,
      ⟨some 69, none, .load 1 false (.t 68)⟩,
      ⟨some 70, none, .idxA 2 (.t 69) (.c (.int .i64 0))⟩,
      ⟨some 71, none, .load 2 true (.t 70)⟩,
      ⟨none, none, .store 2 (.t 13) (.t 71)⟩])
    .skip)))
    (.region [⟨some 72, none, .mov (.t 0)⟩,
      ⟨some 73, none, .load 1 true (.t 7)⟩,
      ⟨some 74, none, .fldA 3 1 false (.t 9)⟩,
      ⟨some 75, none, .load 1 false (.t 74)⟩,
      ⟨some 76, none, .mov (.t 4)⟩,
      ⟨some 77, none, .load 2 true (.t 13)⟩,
      ⟨some 78, none, .call i_interp_cursor_within [.t 72, .t 73, .t 75, .t 76, .t 77]⟩,
      ⟨none, none, .store 3 (.t 12) (.t 78)⟩])))
    (.region [⟨some 79, none, .mov (.t 0)⟩,
      ⟨some 80, none, .load 1 true (.t 7)⟩,
      ⟨some 81, none, .fldA 2 1 false (.t 9)⟩,
      ⟨some 82, none, .load 1 false (.t 81)⟩,
      ⟨some 83, none, .fldA 3 1 false (.t 9)⟩,
      ⟨some 84, none, .load 1 false (.t 83)⟩,
      ⟨some 85, none, .call i_interp_cursor_scalar [.t 79, .t 80, .t 82, .t 84]⟩,
      ⟨none, none, .store 3 (.t 12) (.t 85)⟩])))
    (.draw [2, 3, 8, 1000004, 2000008] [⟨some 86, none, .mov (.t 5)⟩,
      ⟨some 87, none, .fldA 1 1 false (.t 9)⟩,
      ⟨some 88, none, .load 1 false (.t 87)⟩,
      ⟨some 89, none, .call i_interp_field [.t 86, .t 88]⟩,
      ⟨some 90, none, .load 3 true (.t 12)⟩,
      ⟨some 91, none, .bslice 3 [.t 90]⟩,
      ⟨some 92, none, .nilck (.t 89)⟩,
      ⟨some 93, none, .fldA 2 1 false (.t 92)⟩,
      ⟨none, none, .store 1 (.t 93) (.t 91)⟩])))
    (.seq (.seq (.region [⟨some 95, none, .bin false .eql (.t 23) (.c (.int .i64 2))⟩,
      ⟨some 94, none, .mov (.t 95)⟩])
    (.cond (.t 94) .skip
    (.region [⟨some 96, none, .bin false .eql (.t 23) (.c (.int .i64 3))⟩,
      ⟨some 94, none, .mov (.t 96)⟩])))
    (.cond (.t 94) (.seq (.region [⟨some 97, none, .mov (.t 0)⟩,
      ⟨some 98, none, .load 1 true (.t 7)⟩,
      ⟨some 99, none, .fldA 2 1 false (.t 9)⟩,
      ⟨some 100, none, .load 1 false (.t 99)⟩,
      ⟨some 101, none, .fldA 3 1 false (.t 9)⟩,
      ⟨some 102, none, .load 1 false (.t 101)⟩,
      ⟨some 103, none, .mov (.t 4)⟩,
      ⟨some 104, none, .call i_interp_cursor_value [.t 97, .t 98, .t 100, .t 102, .t 103]⟩,
      ⟨some 16, none, .alloc 0 [.int .u64 0, .nil, .nil]⟩,
      ⟨none, none, .store 3 (.t 16) (.t 104)⟩])
    (.seq (.region [⟨some 105, none, .mov (.t 5)⟩,
      ⟨some 106, none, .fldA 1 1 false (.t 9)⟩,
      ⟨some 107, none, .load 1 false (.t 106)⟩,
      ⟨some 108, none, .call i_interp_field [.t 105, .t 107]⟩,
      ⟨some 17, none, .mov (.t 108)⟩])
    (.draw [4, 7, 10, 1000005, 2000007, 2000010] [⟨some 109, none, .mov (.t 17)⟩,
      ⟨some 110, none, .mov (.t 17)⟩,
      ⟨some 111, none, .nilck (.t 110)⟩,
      ⟨some 112, none, .fldA 2 1 false (.t 111)⟩,
      ⟨some 113, none, .load 1 false (.t 112)⟩,
      ⟨some 114, none, .load 3 true (.t 16)⟩,
      ⟨some 115, none, .bslice 3 [.t 114]⟩,
      ⟨some 116, none, .app 0 26 3 56 (.t 113) (.t 115)⟩,
      ⟨some 117, none, .nilck (.t 109)⟩,
      ⟨some 118, none, .fldA 2 1 false (.t 117)⟩,
      ⟨none, none, .store 1 (.t 118) (.t 116)⟩])))
    (.seq (.region [⟨some 120, none, .bin false .eql (.t 23) (.c (.int .i64 4))⟩,
      ⟨some 119, none, .mov (.t 120)⟩])
    (.cond (.t 119) (.seq (.region [⟨some 121, none, .mov (.t 0)⟩,
      ⟨some 122, none, .load 1 true (.t 7)⟩,
      ⟨some 123, none, .fldA 2 1 false (.t 9)⟩,
      ⟨some 124, none, .load 1 false (.t 123)⟩,
      ⟨some 125, none, .fldA 3 1 false (.t 9)⟩,
      ⟨some 126, none, .load 1 false (.t 125)⟩,
      ⟨some 127, none, .mov (.t 4)⟩,
      ⟨some 128, none, .call i_interp_cursor_value [.t 121, .t 122, .t 124, .t 126, .t 127]⟩,
      ⟨some 18, none, .alloc 0 [.int .u64 0, .nil, .nil]⟩,
      ⟨none, none, .store 3 (.t 18) (.t 128)⟩])
    (.seq (.draw [8, 9, 1000001, 1000003, 1000004, 1000006, 2000009] [⟨some 129, none, .fldA 0 1 false (.t 7)⟩,
      ⟨some 130, none, .load 1 false (.t 129)⟩,
      ⟨some 131, none, .mov (.t 2)⟩,
      ⟨some 132, none, .idxA 6 (.t 130) (.t 131)⟩,
      ⟨some 133, none, .load 6 true (.t 132)⟩,
      ⟨some 134, none, .fldA 5 1 false (.t 9)⟩,
      ⟨some 135, none, .load 1 false (.t 134)⟩,
      ⟨some 136, none, .call i_model_Others [.t 133, .t 135]⟩,
      ⟨some 19, none, .alloc 0 [.nil]⟩,
      ⟨none, none, .store 1 (.t 19) (.t 136)⟩])
    (.seq (.region [⟨some 137, none, .mov (.t 5)⟩,
      ⟨some 138, none, .mov (.t 5)⟩,
      ⟨some 139, none, .nilck (.t 138)⟩,
      ⟨some 140, none, .fldA 0 1 false (.t 139)⟩,
      ⟨some 141, none, .load 1 false (.t 140)⟩,
      ⟨some 142, none, .mkfn (.func 238) [] [.t 19]⟩,
      ⟨some 143, none, .call i_slices_DeleteFunc_api_Field_api_Field [.t 141, .t 142]⟩,
      ⟨some 144, none, .nilck (.t 137)⟩,
      ⟨some 145, none, .fldA 0 1 false (.t 144)⟩,
      ⟨none, none, .store 1 (.t 145) (.t 143)⟩])
    (.draw [2, 3, 8, 1000004, 2000008] [⟨some 146, none, .mov (.t 5)⟩,
      ⟨some 147, none, .fldA 1 1 false (.t 9)⟩,
      ⟨some 148, none, .load 1 false (.t 147)⟩,
      ⟨some 149, none, .call i_interp_field [.t 146, .t 148]⟩,
      ⟨some 150, none, .load 3 true (.t 18)⟩,
      ⟨some 151, none, .bslice 3 [.t 150]⟩,
      ⟨some 152, none, .nilck (.t 149)⟩,
      ⟨some 153, none, .fldA 2 1 false (.t 152)⟩,
      ⟨none, none, .store 1 (.t 153) (.t 151)⟩]))))
    (.seq (.region [⟨some 25, none, .mov (.t 0)⟩,
      ⟨some 26, none, .load 1 true (.t 7)⟩,
      ⟨some 27, none, .load 7 true (.t 9)⟩,
      ⟨some 28, none, .mov (.t 4)⟩,
      ⟨some 29, none, .call i_interp_cursor_pair [.t 25, .t 26, .t 27, .t 28]⟩,
      ⟨some 24, none, .mov (.t 29)⟩,
      ⟨some 30, none, .ext 0 (.t 24)⟩,
      ⟨some 31, none, .ext 1 (.t 24)⟩,
      ⟨some 20, none, .alloc 0 [.int .u64 0, .nil, .nil]⟩,
      ⟨some 21, none, .alloc 0 [.int .u64 0, .nil, .nil]⟩,
      ⟨none, none, .store 3 (.t 20) (.t 30)⟩,
      ⟨none, none, .store 3 (.t 21) (.t 31)⟩])
    (.draw [3, 4, 7, 1000000, 1000005, 1000006, 2000007] [⟨some 32, none, .load 7 true (.t 9)⟩,
      ⟨some 33, none, .mov (.t 5)⟩,
      ⟨some 34, none, .fldA 1 1 false (.t 9)⟩,
      ⟨some 35, none, .load 1 false (.t 34)⟩,
      ⟨some 36, none, .call i_interp_field [.t 33, .t 35]⟩,
      ⟨some 37, none, .load 3 true (.t 20)⟩,
      ⟨some 38, none, .load 3 true (.t 21)⟩,
      ⟨some 39, none, .call i_interp_laid [.t 32, .t 36, .t 37, .t 38]⟩]))))))))))), []⟩
theorem T_interp_cursor_put : trFn Tryz.prog [(0, [1, 1]), (2, [0, 0, 0, 0, 0, 0, 0, 0, 1, 1, 0, 0]), (6, [0, 1, 0]), (8, [0, 1, 0]), (17, [0, 0, 0, 0, 0, 0, 0, 0, 1, 0]), (21, [0, 0, 0, 0, 0, 0, 0, 0, 1, 0]), (22, [0, 0, 0, 0, 0, 0, 0, 0, 1, 0]), (1000003, [3, 4, 7, 1000000, 1000005, 1000006, 2000007]), (1000009, [3, 6, 1000005, 2000006]), (1000014, [2, 3, 8, 1000004, 2000008]), (1000019, [4, 7, 10, 1000005, 2000007, 2000010]), (1000022, [8, 9, 1000001, 1000003, 1000004, 1000006, 2000009]), (1000024, [2, 3, 8, 1000004, 2000008])] Tryz.f198 = some A_interp_cursor_put := by kernel_rfl
theorem L_interp_cursor_put : 6 ≤ Tryz.f198.ntmps := by decide

/-! (*cartouche/interp.cursor).row -/
def A_interp_cursor_row : AFn := ⟨(.seq (.region [⟨some 5, none, .box 0 (.t 1)⟩,
      ⟨some 6, none, .box 0 (.t 2)⟩])
    (.seq (.region [⟨some 10, none, .mov (.t 0)⟩,
      ⟨some 11, none, .call i_interp_cursor_chunk [.t 10]⟩,
      ⟨some 8, none, .mov (.t 11)⟩])
    (.seq (.region [⟨some 12, none, .mov (.t 3)⟩,
      ⟨some 13, none, .fldA 1 1 false (.t 6)⟩,
      ⟨some 14, none, .load 1 false (.t 13)⟩,
      ⟨some 15, none, .call i_interp_field [.t 12, .t 14]⟩,
      ⟨some 9, none, .mov (.t 15)⟩])
    (.block 0 (.loop (.seq (.seq (.region [⟨some 16, none, .mov (.t 8)⟩,
      ⟨some 17, none, .call i_interp_cursor_done [.t 16]⟩,
      ⟨some 18, none, .un .not (.t 17)⟩])
    (.cond (.t 18) .skip
    (.exit 0)))
    (.block 1 (.draw [6, 11, 12, 13, 16, 1000004, 1000008, 1000010, 2000013, 2000016] [⟨some 19, none, .mov (.t 9)⟩,
      ⟨some 20, none, .mov (.t 9)⟩,
      ⟨some 21, none, .nilck (.t 20)⟩,
      ⟨some 22, none, .fldA 2 1 false (.t 21)⟩,
      ⟨some 23, none, .load 1 false (.t 22)⟩,
      ⟨some 24, none, .mov (.t 8)⟩,
      ⟨some 25, none, .load 1 true (.t 5)⟩,
      ⟨some 26, none, .fldA 2 1 false (.t 6)⟩,
      ⟨some 27, none, .load 1 false (.t 26)⟩,
      ⟨some 28, none, .fldA 3 1 false (.t 6)⟩,
      ⟨some 29, none, .load 1 false (.t 28)⟩,
      ⟨some 30, none, .call i_interp_cursor_scalar [.t 24, .t 25, .t 27, .t 29]⟩,
      ⟨some 31, none, .blit 0 26 3 [.t 30]⟩,
      ⟨some 32, none, .app 0 26 3 56 (.t 23) (.t 31)⟩,
      ⟨some 33, none, .nilck (.t 19)⟩,
      ⟨some 34, none, .fldA 2 1 false (.t 33)⟩,
      ⟨none, none, .store 1 (.t 34) (.t 32)⟩])))))))), []⟩
theorem T_interp_cursor_row : trFn Tryz.prog [(0, [1, 1]), (4, [0, 0, 0, 0, 0, 0, 0, 0, 0, 0, 0, 0, 1, 0, 0, 0, 0]), (1000004, [6, 11, 12, 13, 16, 1000004, 1000008, 1000010, 2000013, 2000016])] Tryz.f199 = some A_interp_cursor_row := by kernel_rfl
theorem L_interp_cursor_row : 4 ≤ Tryz.f199.ntmps := by decide

/-! (*cartouche/interp.cursor).rest -/
def A_interp_cursor_rest : AFn := ⟨(.seq (.region [⟨some 6, none, .alloc 0 [.int .i64 0, .int .i64 0, .int .u64 0, .nil]⟩])
    (.seq (.region [⟨some 11, none, .mov (.t 1)⟩,
      ⟨some 12, none, .mov (.t 2)⟩,
      ⟨some 13, none, .build [.int .i64 0, .int .i64 0, .int .u64 0, .nil] [(0, 1, .t 11), (1, 1, .t 12)]⟩,
      ⟨some 7, none, .alloc 0 [.int .i64 0, .int .i64 0, .int .u64 0, .nil]⟩,
      ⟨none, none, .store 4 (.t 7) (.t 13)⟩])
    (.seq (.region [⟨some 8, none, .mov (.c (.int .i64 0))⟩])
    (.seq (.region [⟨some 9, none, .mov (.c (.int .i64 0))⟩])
    (.seq (.seq (.region [⟨some 14, none, .mov (.t 2)⟩])
    (.block 0 (.seq (.region [⟨some 30, none, .bin false .eql (.t 14) (.c (.int .i64 0))⟩,
      ⟨some 29, none, .mov (.t 30)⟩])
    (.cond (.t 29) (.draw [3, 8, 14, 1000007, 2000008, 2000014] [⟨some 32, none, .mov (.t 0)⟩,
      ⟨some 33, none, .nilck (.t 32)⟩,
      ⟨some 34, none, .fldA 0 1 false (.t 33)⟩,
      ⟨some 35, none, .load 1 false (.t 34)⟩,
      ⟨some 36, none, .mov (.t 0)⟩,
      ⟨some 37, none, .nilck (.t 36)⟩,
      ⟨some 38, none, .fldA 1 1 false (.t 37)⟩,
      ⟨some 39, none, .load 1 false (.t 38)⟩,
      ⟨some 40, none, .call i_wire_GetVarint [.t 35, .t 39]⟩,
      ⟨some 31, none, .mov (.t 40)⟩,
      ⟨some 41, none, .ext 0 (.t 31)⟩,
      ⟨some 42, none, .ext 1 (.t 31)⟩,
      ⟨some 43, none, .ext 2 (.t 31)⟩,
      ⟨some 44, none, .fldA 2 1 false (.t 7)⟩,
      ⟨none, none, .store 1 (.t 44) (.t 41)⟩,
      ⟨some 9, none, .mov (.t 42)⟩,
      ⟨some 8, none, .mov (.t 43)⟩])
    (.seq (.region [⟨some 46, none, .bin false .eql (.t 14) (.c (.int .i64 1))⟩,
      ⟨some 45, none, .mov (.t 46)⟩])
    (.cond (.t 45) (.draw [3, 8, 14, 1000007, 2000008, 2000014] [⟨some 48, none, .mov (.t 0)⟩,
      ⟨some 49, none, .nilck (.t 48)⟩,
      ⟨some 50, none, .fldA 0 1 false (.t 49)⟩,
      ⟨some 51, none, .load 1 false (.t 50)⟩,
      ⟨some 52, none, .mov (.t 0)⟩,
      ⟨some 53, none, .nilck (.t 52)⟩,
      ⟨some 54, none, .fldA 1 1 false (.t 53)⟩,
      ⟨some 55, none, .load 1 false (.t 54)⟩,
      ⟨some 56, none, .call i_wire_GetFix64 [.t 51, .t 55]⟩,
      ⟨some 47, none, .mov (.t 56)⟩,
      ⟨some 57, none, .ext 0 (.t 47)⟩,
      ⟨some 58, none, .ext 1 (.t 47)⟩,
      ⟨some 59, none, .ext 2 (.t 47)⟩,
      ⟨some 60, none, .fldA 2 1 false (.t 7)⟩,
      ⟨none, none, .store 1 (.t 60) (.t 57)⟩,
      ⟨some 9, none, .mov (.t 58)⟩,
      ⟨some 8, none, .mov (.t 59)⟩])
    (.seq (.region [⟨some 62, none, .bin false .eql (.t 14) (.c (.int .i64 5))⟩,
      ⟨some 61, none, .mov (.t 62)⟩])
    (.cond (.t 61) (.seq (.region [⟨some 10, none, .mov (.c (.int .u32 0))⟩])
    (.seq (.draw [3, 8, 1000007, 2000008] [⟨some 64, none, .mov (.t 0)⟩,
      ⟨some 65, none, .nilck (.t 64)⟩,
      ⟨some 66, none, .fldA 0 1 false (.t 65)⟩,
      ⟨some 67, none, .load 1 false (.t 66)⟩,
      ⟨some 68, none, .mov (.t 0)⟩,
      ⟨some 69, none, .nilck (.t 68)⟩,
      ⟨some 70, none, .fldA 1 1 false (.t 69)⟩,
      ⟨some 71, none, .load 1 false (.t 70)⟩,
      ⟨some 72, none, .call i_wire_GetFix32 [.t 67, .t 71]⟩,
      ⟨some 63, none, .mov (.t 72)⟩,
      ⟨some 73, none, .ext 0 (.t 63)⟩,
      ⟨some 74, none, .ext 1 (.t 63)⟩,
      ⟨some 75, none, .ext 2 (.t 63)⟩,
      ⟨some 10, none, .mov (.t 73)⟩,
      ⟨some 9, none, .mov (.t 74)⟩,
      ⟨some 8, none, .mov (.t 75)⟩])
    (.region [⟨some 76, none, .mov (.t 10)⟩,
      ⟨some 77, none, .conv .u64 (.t 76)⟩,
      ⟨some 78, none, .fldA 2 1 false (.t 7)⟩,
      ⟨none, none, .store 1 (.t 78) (.t 77)⟩])))
    (.draw [3, 8, 14, 1000007, 2000008, 2000014] [⟨some 16, none, .mov (.t 0)⟩,
      ⟨some 17, none, .nilck (.t 16)⟩,
      ⟨some 18, none, .fldA 0 1 false (.t 17)⟩,
      ⟨some 19, none, .load 1 false (.t 18)⟩,
      ⟨some 20, none, .mov (.t 0)⟩,
      ⟨some 21, none, .nilck (.t 20)⟩,
      ⟨some 22, none, .fldA 1 1 false (.t 21)⟩,
      ⟨some 23, none, .load 1 false (.t 22)⟩,
      ⟨some 24, none, .call i_wire_GetChunk [.t 19, .t 23]⟩,
      ⟨some 15, none, .mov (.t 24)⟩,
      ⟨some 25, none, .ext 0 (.t 15)⟩,
      ⟨some 26, none, .ext 1 (.t 15)⟩,
      ⟨some 27, none, .ext 2 (.t 15)⟩,
      ⟨some 28, none, .fldA 3 1 false (.t 7)⟩,
      ⟨none, none, .store 1 (.t 28) (.t 25)⟩,
      ⟨some 9, none, .mov (.t 26)⟩,
      ⟨some 8, none, .mov (.t 27)⟩])))))))))
    (.seq (.region [⟨some 79, none, .mov (.t 8)⟩,
      ⟨some 80, none, .call i_interp_must [.t 79]⟩])
    (.seq (.region [⟨some 81, none, .mov (.t 0)⟩,
      ⟨some 82, none, .mov (.t 9)⟩,
      ⟨some 83, none, .nilck (.t 81)⟩,
      ⟨some 84, none, .fldA 1 1 false (.t 83)⟩,
      ⟨none, none, .store 1 (.t 84) (.t 82)⟩])
    (.seq (.region [⟨some 85, none, .load 4 true (.t 7)⟩,
      ⟨none, none, .store 4 (.t 6) (.t 85)⟩])
    .ret)))))))), [.cell 6 4 true]⟩
theorem T_interp_cursor_rest : trFn Tryz.prog [(0, [1]), (1, [0, 0, 0, 1, 0]), (1000005, [3, 8, 14, 1000007, 2000008, 2000014]), (1000007, [3, 8, 14, 1000007, 2000008, 2000014]), (1000009, [3, 8, 14, 1000007, 2000008, 2000014]), (1000012, [3, 8, 1000007, 2000008])] Tryz.f200 = some A_interp_cursor_rest := by kernel_rfl
theorem L_interp_cursor_rest : 3 ≤ Tryz.f200.ntmps := by decide

/-! cartouche/table.goodName -/
def A_table_goodName : AFn := ⟨(.seq (.region [⟨some 3, none, .box 0 (.t 0)⟩,
      ⟨some 6, none, .mov (.c (.bool false))⟩])
    (.seq (.region [⟨some 14, none, .fldA 0 1 false (.t 3)⟩,
      ⟨some 15, none, .load 1 false (.t 14)⟩,
      ⟨some 16, none, .mov (.t 1)⟩,
      ⟨some 17, none, .idxA 6 (.t 15) (.t 16)⟩,
      ⟨some 18, none, .load 6 true (.t 17)⟩,
      ⟨some 7, none, .alloc 0 [.str ⟨#[]⟩, .bool false, .nil, .nil, .nil, .nil]⟩,
      ⟨none, none, .store 6 (.t 7) (.t 18)⟩])
    (.seq (.region [⟨some 19, none, .fldA 0 1 false (.t 7)⟩,
      ⟨some 20, none, .load 1 false (.t 19)⟩,
      ⟨some 21, none, .call i_strings_Split [.t 20, .c (.str ⟨#[46]⟩)]⟩,
      ⟨some 8, none, .mov (.t 21)⟩])
    (.seq (.region [⟨some 9, none, .mov (.c (.int .i64 8))⟩])
    (.seq (.seq (.region [⟨some 22, none, .fldA 1 1 false (.t 7)⟩,
      ⟨some 23, none, .load 1 false (.t 22)⟩])
    (.cond (.t 23) (.region [⟨some 24, none, .mov (.t 9)⟩,
      ⟨some 25, none, .bin false .add (.t 24) (.c (.int .i64 1))⟩,
      ⟨some 9, none, .mov (.t 25)⟩])
    .skip))
    (.seq (.seq (.region [⟨some 26, none, .mov (.t 8)⟩,
      ⟨some 27, none, .len false (.t 26)⟩,
      ⟨some 28, none, .mov (.t 9)⟩,
      ⟨some 29, none, .bin false .gtr (.t 27) (.t 28)⟩])
    (.cond (.t 29) (.seq (.region [⟨some 6, none, .mov (.c (.bool false))⟩])
    .ret)
    .skip))
    (.seq (.seq (.region [⟨some 30, none, .mov (.t 8)⟩,
      ⟨some 31, none, .len false (.t 30)⟩,
      ⟨some 32, none, .mov (.c (.int .i64 0))⟩])
    (.block 0 (.loop (.seq (.region [⟨some 33, none, .bin false .lss (.t 32) (.t 31)⟩])
    (.seq (.cond (.t 33) .skip
    (.exit 0))
    (.seq (.block 1 (.seq (.region [⟨some 34, none, .idxA 1 (.t 30) (.t 32)⟩,
      ⟨some 35, none, .load 1 false (.t 34)⟩,
      ⟨some 11, none, .mov (.t 35)⟩])
    (.seq (.region [⟨some 36, none, .mov (.t 11)⟩,
      ⟨some 37, none, .call i_lex_IsName [.t 36]⟩,
      ⟨some 38, none, .un .not (.t 37)⟩])
    (.cond (.t 38) (.seq (.region [⟨some 6, none, .mov (.c (.bool false))⟩])
    .ret)
    .skip))))
    (.region [⟨some 39, none, .bin false .add (.t 32) (.c (.int .i64 1))⟩,
      ⟨some 32, none, .mov (.t 39)⟩])))))))
    (.seq (.seq (.region [⟨some 40, none, .mov (.t 8)⟩,
      ⟨some 41, none, .len false (.t 40)⟩,
      ⟨some 42, none, .bin false .eql (.t 41) (.c (.int .i64 1))⟩])
    (.cond (.t 42) (.seq (.region [⟨some 6, none, .mov (.c (.bool true))⟩])
    .ret)
    .skip))
    (.seq (.region [⟨some 44, none, .mov (.t 2)⟩,
      ⟨some 45, none, .mov (.t 8)⟩,
      ⟨some 46, none, .mov (.t 8)⟩,
      ⟨some 47, none, .len false (.t 46)⟩,
      ⟨some 48, none, .bin false .sub (.t 47) (.c (.int .i64 1))⟩,
      ⟨some 49, none, .slc 1 (.t 45) none (some (.t 48)) none⟩,
      ⟨some 50, none, .call i_strings_Join [.t 49, .c (.str ⟨#[46]⟩)]⟩,
      ⟨some 51, none, .look .str (.int .i64 0) true (.t 44) (.t 50)⟩,
      ⟨some 43, none, .mov (.t 51)⟩,
      ⟨some 52, none, .ext 0 (.t 43)⟩,
      ⟨some 53, none, .ext 1 (.t 43)⟩,
      ⟨some 12, none, .mov (.t 52)⟩,
      ⟨some 13, none, .mov (.t 53)⟩])
    (.seq (.region [⟨some 54, none, .mov (.t 13)⟩,
      ⟨some 55, none, .mov (.t 54)⟩,
      ⟨some 56, some (55, true), .fldA 0 1 false (.t 3)⟩,
      ⟨some 57, some (55, true), .load 1 false (.t 56)⟩,
      ⟨some 58, some (55, true), .mov (.t 12)⟩,
      ⟨some 59, some (55, true), .idxA 6 (.t 57) (.t 58)⟩,
      ⟨some 60, some (55, true), .fldA 1 1 false (.t 59)⟩,
      ⟨some 61, some (55, true), .load 1 false (.t 60)⟩,
      ⟨some 62, some (55, true), .un .not (.t 61)⟩,
      ⟨some 63, none, .pickb (.t 55) (.t 62) (.c (.bool false))⟩,
      ⟨some 6, none, .mov (.t 63)⟩])
    .ret)))))))))), [.tmp 6]⟩
theorem T_table_goodName : trFn Tryz.prog [(0, [1, 0]), (1, [0, 0, 0, 0, 0, 1, 0])] Tryz.f201 = some A_table_goodName := by kernel_rfl
theorem L_table_goodName : 3 ≤ Tryz.f201.ntmps := by decide

/-! cartouche/table.goodEnum -/
def A_table_goodEnum : AFn := ⟨(.seq (.region [⟨some 1, none, .box 0 (.t 0)⟩,
      ⟨some 2, none, .mov (.c (.bool false))⟩])
    (.seq (.seq (.region [⟨some 7, none, .fldA 4 1 false (.t 1)⟩,
      ⟨some 8, none, .load 1 false (.t 7)⟩,
      ⟨some 9, none, .len false (.t 8)⟩,
      ⟨some 10, none, .bin false .lss (.t 9) (.c (.int .i64 1))⟩,
      ⟨some 11, none, .mov (.t 10)⟩,
      ⟨some 12, some (11, false), .fldA 4 1 false (.t 1)⟩,
      ⟨some 13, some (11, false), .load 1 false (.t 12)⟩,
      ⟨some 14, some (11, false), .len false (.t 13)⟩,
      ⟨some 15, some (11, false), .bin false .gtr (.t 14) (.c (.int .i64 128))⟩,
      ⟨some 16, none, .pickb (.t 11) (.c (.bool true)) (.t 15)⟩,
      ⟨some 17, none, .mov (.t 16)⟩,
      ⟨some 18, some (17, false), .fldA 4 1 false (.t 1)⟩,
      ⟨some 19, some (17, false), .load 1 false (.t 18)⟩,
      ⟨some 20, some (17, false), .idxA 2 (.t 19) (.c (.int .i64 0))⟩,
      ⟨some 21, some (17, false), .fldA 1 1 false (.t 20)⟩,
      ⟨some 22, some (17, false), .load 1 false (.t 21)⟩,
      ⟨some 23, some (17, false), .bin false .neq (.t 22) (.c (.int .i64 0))⟩,
      ⟨some 24, none, .pickb (.t 17) (.c (.bool true)) (.t 23)⟩,
      ⟨some 25, none, .mov (.t 24)⟩,
      ⟨some 26, some (25, false), .fldA 2 1 false (.t 1)⟩,
      ⟨some 27, some (25, false), .load 1 false (.t 26)⟩,
      ⟨some 28, some (25, false), .len false (.t 27)⟩,
      ⟨some 29, some (25, false), .fldA 3 1 false (.t 1)⟩,
      ⟨some 30, some (25, false), .load 1 false (.t 29)⟩,
      ⟨some 31, some (25, false), .len false (.t 30)⟩,
      ⟨some 32, some (25, false), .bin false .add (.t 28) (.t 31)⟩,
      ⟨some 33, some (25, false), .fldA 5 1 false (.t 1)⟩,
      ⟨some 34, some (25, false), .load 1 false (.t 33)⟩,
      ⟨some 35, some (25, false), .len false (.t 34)⟩,
      ⟨some 36, some (25, false), .bin false .add (.t 32) (.t 35)⟩,
      ⟨some 37, some (25, false), .bin false .gtr (.t 36) (.c (.int .i64 0))⟩,
      ⟨some 38, none, .pickb (.t 25) (.c (.bool true)) (.t 37)⟩])
    (.cond (.t 38) (.seq (.region [⟨some 2, none, .mov (.c (.bool false))⟩])
    .ret)
    .skip))
    (.seq (.region [⟨some 39, none, .mkmap 0 .str⟩,
      ⟨some 40, none, .mkmap 0 (.int .i64)⟩,
      ⟨some 3, none, .mov (.t 39)⟩,
      ⟨some 4, none, .mov (.t 40)⟩])
    (.seq (.seq (.region [⟨some 41, none, .fldA 4 1 false (.t 1)⟩,
      ⟨some 42, none, .load 1 false (.t 41)⟩,
      ⟨some 43, none, .len false (.t 42)⟩,
      ⟨some 44, none, .mov (.c (.int .i64 0))⟩])
    (.block 0 (.loop (.seq (.region [⟨some 45, none, .bin false .lss (.t 44) (.t 43)⟩])
    (.seq (.cond (.t 45) .skip
    (.exit 0))
    (.seq (.block 1 (.seq (.region [⟨some 46, none, .idxA 2 (.t 42) (.t 44)⟩,
      ⟨some 47, none, .load 2 true (.t 46)⟩,
      ⟨some 6, none, .alloc 0 [.str ⟨#[]⟩, .int .i64 0]⟩,
      ⟨none, none, .store 2 (.t 6) (.t 47)⟩])
    (.seq (.seq (.region [⟨some 48, none, .fldA 0 1 false (.t 6)⟩,
      ⟨some 49, none, .load 1 false (.t 48)⟩,
      ⟨some 50, none, .call i_lex_IsName [.t 49]⟩,
      ⟨some 51, none, .un .not (.t 50)⟩,
      ⟨some 52, none, .mov (.t 51)⟩,
      ⟨some 53, some (52, false), .mov (.t 3)⟩,
      ⟨some 54, some (52, false), .fldA 0 1 false (.t 6)⟩,
      ⟨some 55, some (52, false), .load 1 false (.t 54)⟩,
      ⟨some 56, some (52, false), .call i_table_named_add [.t 53, .t 55]⟩,
      ⟨some 57, some (52, false), .un .not (.t 56)⟩,
      ⟨some 58, none, .pickb (.t 52) (.c (.bool true)) (.t 57)⟩,
      ⟨some 59, none, .mov (.t 58)⟩,
      ⟨some 60, some (59, false), .fldA 1 1 false (.t 6)⟩,
      ⟨some 61, some (59, false), .load 1 false (.t 60)⟩,
      ⟨some 62, some (59, false), .bin false .lss (.t 61) (.c (.int .i64 0))⟩,
      ⟨some 63, none, .pickb (.t 59) (.c (.bool true)) (.t 62)⟩,
      ⟨some 64, none, .mov (.t 63)⟩,
      ⟨some 65, some (64, false), .fldA 1 1 false (.t 6)⟩,
      ⟨some 66, some (64, false), .load 1 false (.t 65)⟩,
      ⟨some 67, some (64, false), .bin false .gtr (.t 66) (.c (.int .i64 2147483647))⟩,
      ⟨some 68, none, .pickb (.t 64) (.c (.bool true)) (.t 67)⟩])
    (.cond (.t 68) (.seq (.region [⟨some 2, none, .mov (.c (.bool false))⟩])
    .ret)
    .skip))
    (.region [⟨some 69, none, .mov (.t 4)⟩,
      ⟨some 70, none, .fldA 1 1 false (.t 6)⟩,
      ⟨some 71, none, .load 1 false (.t 70)⟩,
      ⟨some 72, none, .build [] []⟩,
      ⟨none, none, .mapset (.int .i64) (.t 69) (.t 71) (.t 72)⟩]))))
    (.region [⟨some 73, none, .bin false .add (.t 44) (.c (.int .i64 1))⟩,
      ⟨some 44, none, .mov (.t 73)⟩])))))))
    (.seq (.region [⟨some 74, none, .mov (.t 4)⟩,
      ⟨some 75, none, .lenm (.t 74)⟩,
      ⟨some 76, none, .fldA 4 1 false (.t 1)⟩,
      ⟨some 77, none, .load 1 false (.t 76)⟩,
      ⟨some 78, none, .len false (.t 77)⟩,
      ⟨some 79, none, .bin false .eql (.t 75) (.t 78)⟩,
      ⟨some 2, none, .mov (.t 79)⟩])
    .ret))))), [.tmp 2]⟩
theorem T_table_goodEnum : trFn Tryz.prog [(0, [1, 0]), (6, [0, 0, 1, 0])] Tryz.f202 = some A_table_goodEnum := by kernel_rfl
theorem L_table_goodEnum : 1 ≤ Tryz.f202.ntmps := by decide

/-! cartouche/table.goodMessage -/
def A_table_goodMessage : AFn := ⟨(.seq (.region [⟨some 2, none, .box 0 (.t 0)⟩,
      ⟨some 3, none, .box 0 (.t 1)⟩,
      ⟨some 4, none, .mov (.c (.bool false))⟩])
    (.seq (.seq (.region [⟨some 16, none, .fldA 4 1 false (.t 3)⟩,
      ⟨some 17, none, .load 1 false (.t 16)⟩,
      ⟨some 18, none, .len false (.t 17)⟩,
      ⟨some 19, none, .bin false .gtr (.t 18) (.c (.int .i64 0))⟩,
      ⟨some 20, none, .mov (.t 19)⟩,
      ⟨some 21, some (20, false), .fldA 2 1 false (.t 3)⟩,
      ⟨some 22, some (20, false), .load 1 false (.t 21)⟩,
      ⟨some 23, some (20, false), .len false (.t 22)⟩,
      ⟨some 24, some (20, false), .bin false .gtr (.t 23) (.c (.int .i64 128))⟩,
      ⟨some 25, none, .pickb (.t 20) (.c (.bool true)) (.t 24)⟩,
      ⟨some 26, none, .mov (.t 25)⟩,
      ⟨some 27, some (26, false), .fldA 5 1 false (.t 3)⟩,
      ⟨some 28, some (26, false), .load 1 false (.t 27)⟩,
      ⟨some 29, some (26, false), .len false (.t 28)⟩,
      ⟨some 30, some (26, false), .bin false .gtr (.t 29) (.c (.int .i64 128))⟩,
      ⟨some 31, none, .pickb (.t 26) (.c (.bool true)) (.t 30)⟩])
    (.cond (.t 31) (.seq (.region [⟨some 4, none, .mov (.c (.bool false))⟩])
    .ret)
    .skip))
    (.seq (.draw [3000000] [⟨some 32, none, .mkmap 0 .str⟩,
      ⟨some 33, none, .fldA 3 1 false (.t 3)⟩,
      ⟨some 34, none, .load 1 false (.t 33)⟩,
      ⟨some 35, none, .len false (.t 34)⟩,
      ⟨some 36, none, .mks 0 3 1 8 (.int .i64 0) (.t 35) (.t 35)⟩,
      ⟨some 5, none, .mov (.t 32)⟩,
      ⟨some 6, none, .mov (.t 36)⟩])
    (.seq (.seq (.region [⟨some 37, none, .fldA 3 1 false (.t 3)⟩,
      ⟨some 38, none, .load 1 false (.t 37)⟩,
      ⟨some 39, none, .len false (.t 38)⟩,
      ⟨some 40, none, .mov (.c (.int .i64 0))⟩])
    (.block 0 (.loop (.seq (.region [⟨some 41, none, .bin false .lss (.t 40) (.t 39)⟩])
    (.seq (.cond (.t 41) .skip
    (.exit 0))
    (.seq (.block 1 (.seq (.region [⟨some 42, none, .idxA 1 (.t 38) (.t 40)⟩,
      ⟨some 43, none, .load 1 false (.t 42)⟩,
      ⟨some 8, none, .mov (.t 43)⟩])
    (.seq (.region [⟨some 44, none, .mov (.t 8)⟩,
      ⟨some 45, none, .call i_lex_IsName [.t 44]⟩,
      ⟨some 46, none, .un .not (.t 45)⟩,
      ⟨some 47, none, .mov (.t 46)⟩,
      ⟨some 48, some (47, false), .mov (.t 5)⟩,
      ⟨some 49, some (47, false), .mov (.t 8)⟩,
      ⟨some 50, some (47, false), .call i_table_named_add [.t 48, .t 49]⟩,
      ⟨some 51, some (47, false), .un .not (.t 50)⟩,
      ⟨some 52, none, .pickb (.t 47) (.c (.bool true)) (.t 51)⟩])
    (.cond (.t 52) (.seq (.region [⟨some 4, none, .mov (.c (.bool false))⟩])
    .ret)
    .skip))))
    (.region [⟨some 53, none, .bin false .add (.t 40) (.c (.int .i64 1))⟩,
      ⟨some 40, none, .mov (.t 53)⟩])))))))
    (.seq (.seq (.region [⟨some 54, none, .fldA 5 1 false (.t 3)⟩,
      ⟨some 55, none, .load 1 false (.t 54)⟩,
      ⟨some 56, none, .len false (.t 55)⟩,
      ⟨some 57, none, .mov (.c (.int .i64 0))⟩])
    (.block 2 (.loop (.seq (.region [⟨some 58, none, .bin false .lss (.t 57) (.t 56)⟩])
    (.seq (.cond (.t 58) .skip
    (.exit 2))
    (.seq (.block 3 (.seq (.region [⟨some 59, none, .mov (.t 57)⟩,
      ⟨some 60, none, .idxA 2 (.t 55) (.t 57)⟩,
      ⟨some 61, none, .load 2 true (.t 60)⟩,
      ⟨some 10, none, .alloc 0 [.int .i64 0, .int .i64 0]⟩,
      ⟨some 9, none, .mov (.t 59)⟩,
      ⟨none, none, .store 2 (.t 10) (.t 61)⟩])
    (.seq (.draw [1, 5, 10, 20, 1000012, 1000022, 1000025, 1000027] [⟨some 62, none, .fldA 0 1 false (.t 10)⟩,
      ⟨some 63, none, .load 1 false (.t 62)⟩,
      ⟨some 64, none, .bin false .lss (.t 63) (.c (.int .i64 1))⟩,
      ⟨some 65, none, .mov (.t 64)⟩,
      ⟨some 66, some (65, false), .fldA 1 1 false (.t 10)⟩,
      ⟨some 67, some (65, false), .load 1 false (.t 66)⟩,
      ⟨some 68, some (65, false), .bin false .gtr (.t 67) (.c (.int .i64 536870911))⟩,
      ⟨some 69, none, .pickb (.t 65) (.c (.bool true)) (.t 68)⟩,
      ⟨some 70, none, .mov (.t 69)⟩,
      ⟨some 71, some (70, false), .fldA 0 1 false (.t 10)⟩,
      ⟨some 72, some (70, false), .load 1 false (.t 71)⟩,
      ⟨some 73, some (70, false), .fldA 1 1 false (.t 10)⟩,
      ⟨some 74, some (70, false), .load 1 false (.t 73)⟩,
      ⟨some 75, some (70, false), .bin false .gtr (.t 72) (.t 74)⟩,
      ⟨some 76, none, .pickb (.t 70) (.c (.bool true)) (.t 75)⟩,
      ⟨some 77, none, .mov (.t 76)⟩,
      ⟨some 78, some (77, false), .mov (.t 9)⟩,
      ⟨some 79, some (77, false), .bin false .gtr (.t 78) (.c (.int .i64 0))⟩,
      ⟨some 80, some (77, false), .mov (.t 79)⟩,
      ⟨some 81, some (80, true), .fldA 0 1 false (.t 10)⟩,
      ⟨some 82, some (80, true), .load 1 false (.t 81)⟩,
      ⟨some 83, some (80, true), .fldA 5 1 false (.t 3)⟩,
      ⟨some 84, some (80, true), .load 1 false (.t 83)⟩,
      ⟨some 85, some (80, true), .mov (.t 9)⟩,
      ⟨some 86, some (80, true), .bin false .sub (.t 85) (.c (.int .i64 1))⟩,
      ⟨some 87, some (80, true), .idxA 2 (.t 84) (.t 86)⟩,
      ⟨some 88, some (80, true), .fldA 1 1 false (.t 87)⟩,
      ⟨some 89, some (80, true), .load 1 false (.t 88)⟩,
      ⟨some 90, some (80, true), .bin false .leq (.t 82) (.t 89)⟩,
      ⟨some 91, some (77, false), .pickb (.t 80) (.t 90) (.c (.bool false))⟩,
      ⟨some 92, none, .pickb (.t 77) (.c (.bool true)) (.t 91)⟩])
    (.cond (.t 92) (.seq (.region [⟨some 4, none, .mov (.c (.bool false))⟩])
    .ret)
    .skip))))
    (.region [⟨some 93, none, .bin false .add (.t 57) (.c (.int .i64 1))⟩,
      ⟨some 57, none, .mov (.t 93)⟩])))))))
    (.seq (.region [⟨some 11, none, .mov (.c (.int .i64 0))⟩])
    (.seq (.seq (.region [⟨some 94, none, .fldA 2 1 false (.t 3)⟩,
      ⟨some 95, none, .load 1 false (.t 94)⟩,
      ⟨some 96, none, .len false (.t 95)⟩,
      ⟨some 97, none, .mov (.c (.int .i64 0))⟩])
    (.block 4 (.loop (.seq (.region [⟨some 98, none, .bin false .lss (.t 97) (.t 96)⟩])
    (.seq (.cond (.t 98) .skip
    (.exit 4))
    (.seq (.block 5 (.seq (.region [⟨some 99, none, .idxA 7 (.t 95) (.t 97)⟩,
      ⟨some 100, none, .load 7 true (.t 99)⟩,
      ⟨some 13, none, .alloc 0 [.str ⟨#[]⟩, .int .i64 0, .int .i64 0, .int .i64 0, .int .i64 0, .int .i64 0, .int .i64 0]⟩,
      ⟨none, none, .store 7 (.t 13) (.t 100)⟩])
    (.seq (.seq (.region [⟨some 101, none, .fldA 0 1 false (.t 13)⟩,
      ⟨some 102, none, .load 1 false (.t 101)⟩,
      ⟨some 103, none, .call i_lex_IsName [.t 102]⟩,
      ⟨some 104, none, .un .not (.t 103)⟩,
      ⟨some 105, none, .mov (.t 104)⟩,
      ⟨some 106, some (105, false), .mov (.t 5)⟩,
      ⟨some 107, some (105, false), .fldA 0 1 false (.t 13)⟩,
      ⟨some 108, some (105, false), .load 1 false (.t 107)⟩,
      ⟨some 109, some (105, false), .call i_table_named_add [.t 106, .t 108]⟩,
      ⟨some 110, some (105, false), .un .not (.t 109)⟩,
      ⟨some 111, none, .pickb (.t 105) (.c (.bool true)) (.t 110)⟩,
      ⟨some 112, none, .mov (.t 111)⟩,
      ⟨some 113, some (112, false), .fldA 1 1 false (.t 13)⟩,
      ⟨some 114, some (112, false), .load 1 false (.t 113)⟩,
      ⟨some 115, some (112, false), .mov (.t 11)⟩,
      ⟨some 116, some (112, false), .bin false .leq (.t 114) (.t 115)⟩,
      ⟨some 117, none, .pickb (.t 112) (.c (.bool true)) (.t 116)⟩,
      ⟨some 118, none, .mov (.t 117)⟩,
      ⟨some 119, some (118, false), .fldA 1 1 false (.t 13)⟩,
      ⟨some 120, some (118, false), .load 1 false (.t 119)⟩,
      ⟨some 121, some (118, false), .bin false .gtr (.t 120) (.c (.int .i64 536870911))⟩,
      ⟨some 122, none, .pickb (.t 118) (.c (.bool true)) (.t 121)⟩,
      ⟨some 123, none, .mov (.t 122)⟩,
      ⟨some 124, some (123, false), .load 6 true (.t 3)⟩,
      ⟨some 125, some (123, false), .fldA 1 1 false (.t 13)⟩,
      ⟨some 126, some (123, false), .load 1 false (.t 125)⟩,
      ⟨some 127, some (123, false), .call i_table_reserved [.t 124, .t 126]⟩,
      ⟨some 128, none, .pickb (.t 123) (.c (.bool true)) (.t 127)⟩,
      ⟨some 129, none, .mov (.t 128)⟩,
      ⟨some 130, some (129, false), .load 1 true (.t 2)⟩,
      ⟨some 131, some (129, false), .load 6 true (.t 3)⟩,
      ⟨some 132, some (129, false), .load 7 true (.t 13)⟩,
      ⟨some 133, some (129, false), .call i_table_goodField [.t 130, .t 131, .t 132]⟩,
      ⟨some 134, some (129, false), .un .not (.t 133)⟩,
      ⟨some 135, none, .pickb (.t 129) (.c (.bool true)) (.t 134)⟩])
    (.cond (.t 135) (.seq (.region [⟨some 4, none, .mov (.c (.bool false))⟩])
    .ret)
    .skip))
    (.seq (.region [⟨some 136, none, .fldA 1 1 false (.t 13)⟩,
      ⟨some 137, none, .load 1 false (.t 136)⟩,
      ⟨some 11, none, .mov (.t 137)⟩])
    (.seq (.region [⟨some 138, none, .fldA 4 1 false (.t 13)⟩,
      ⟨some 139, none, .load 1 false (.t 138)⟩,
      ⟨some 140, none, .bin false .eql (.t 139) (.c (.int .i64 4))⟩])
    (.cond (.t 140) (.region [⟨some 141, none, .mov (.t 6)⟩,
      ⟨some 142, none, .fldA 5 1 false (.t 13)⟩,
      ⟨some 143, none, .load 1 false (.t 142)⟩,
      ⟨some 144, none, .idxA 1 (.t 141) (.t 143)⟩,
      ⟨some 145, none, .load 1 false (.t 144)⟩,
      ⟨some 146, none, .bin false .add (.t 145) (.c (.int .i64 1))⟩,
      ⟨some 147, none, .idxA 1 (.t 141) (.t 143)⟩,
      ⟨none, none, .store 1 (.t 147) (.t 146)⟩])
    .skip))))))
    (.region [⟨some 148, none, .bin false .add (.t 97) (.c (.int .i64 1))⟩,
      ⟨some 97, none, .mov (.t 148)⟩])))))))
    (.seq (.seq (.region [⟨some 149, none, .mov (.t 6)⟩,
      ⟨some 150, none, .len false (.t 149)⟩,
      ⟨some 151, none, .mov (.c (.int .i64 0))⟩])
    (.block 6 (.loop (.seq (.region [⟨some 152, none, .bin false .lss (.t 151) (.t 150)⟩])
    (.seq (.cond (.t 152) .skip
    (.exit 6))
    (.seq (.block 7 (.seq (.region [⟨some 153, none, .idxA 1 (.t 149) (.t 151)⟩,
      ⟨some 154, none, .load 1 false (.t 153)⟩,
      ⟨some 15, none, .mov (.t 154)⟩])
    (.seq (.region [⟨some 155, none, .mov (.t 15)⟩,
      ⟨some 156, none, .bin false .eql (.t 155) (.c (.int .i64 0))⟩])
    (.cond (.t 156) (.seq (.region [⟨some 4, none, .mov (.c (.bool false))⟩])
    .ret)
    .skip))))
    (.region [⟨some 157, none, .bin false .add (.t 151) (.c (.int .i64 1))⟩,
      ⟨some 151, none, .mov (.t 157)⟩])))))))
    (.seq (.region [⟨some 4, none, .mov (.c (.bool true))⟩])
    .ret))))))))), [.tmp 4]⟩
theorem T_table_goodMessage : trFn Tryz.prog [(0, [1, 1, 0]), (12, [0, 0, 0, 1, 0, 0]), (19, [0, 0, 1, 0]), (1000003, [3000000]), (1000013, [1, 5, 10, 20, 1000012, 1000022, 1000025, 1000027])] Tryz.f203 = some A_table_goodMessage := by kernel_rfl
theorem L_table_goodMessage : 2 ≤ Tryz.f203.ntmps := by decide

/-! cartouche/delta.at$1 -/
def A_delta_at_1 : AFn := ⟨(.seq (.region [⟨some 2, none, .box 0 (.t 0)⟩,
      ⟨some 3, none, .mov (.c (.bool false))⟩])
    (.seq (.region [⟨some 4, none, .fldA 0 1 false (.t 2)⟩,
      ⟨some 5, none, .load 1 false (.t 4)⟩,
      ⟨some 6, none, .load 1 false (.t 1)⟩,
      ⟨some 7, none, .bin false .eql (.t 5) (.t 6)⟩,
      ⟨some 3, none, .mov (.t 7)⟩])
    .ret)), [.tmp 3]⟩
theorem T_delta_at_1 : trFn Tryz.prog [(0, [1, 0])] Tryz.f204 = some A_delta_at_1 := by kernel_rfl
theorem L_delta_at_1 : 2 ≤ Tryz.f204.ntmps := by decide

/-! cartouche/delta.laid$1 -/
def A_delta_laid_1 : AFn := ⟨(.seq (.region [⟨some 2, none, .box 0 (.t 0)⟩,
      ⟨some 3, none, .mov (.c (.bool false))⟩])
    (.seq (.region [⟨some 4, none, .fldA 0 1 false (.t 2)⟩,
      ⟨some 5, none, .load 1 false (.t 4)⟩,
      ⟨some 6, none, .fldA 0 1 false (.t 1)⟩,
      ⟨some 7, none, .load 1 false (.t 6)⟩,
      ⟨some 8, none, .bin false .gtr (.t 5) (.t 7)⟩,
      ⟨some 3, none, .mov (.t 8)⟩])
    .ret)), [.tmp 3]⟩
theorem T_delta_laid_1 : trFn Tryz.prog [(0, [1, 0])] Tryz.f205 = some A_delta_laid_1 := by kernel_rfl
theorem L_delta_laid_1 : 2 ≤ Tryz.f205.ntmps := by decide

/-! slices.Insert[[]cartouche/api.Field,cartouche/api.Field] -/
def A_slices_Insert_api_Field_api_Field : AFn := ⟨(.seq (.region [⟨some 6, none, .mov (.c (.nil))⟩])
    (.seq (.region [⟨some 10, none, .mov (.t 0)⟩,
      ⟨some 11, none, .mov (.t 1)⟩,
      ⟨some 12, none, .slcT 0 3 (.t 10) (.t 11)⟩])
    (.seq (.region [⟨some 13, none, .mov (.t 2)⟩,
      ⟨some 14, none, .len false (.t 13)⟩,
      ⟨some 7, none, .mov (.t 14)⟩])
    (.seq (.seq (.region [⟨some 15, none, .mov (.t 7)⟩,
      ⟨some 16, none, .bin false .eql (.t 15) (.c (.int .i64 0))⟩])
    (.cond (.t 16) (.seq (.region [⟨some 17, none, .mov (.t 0)⟩,
      ⟨some 6, none, .mov (.t 17)⟩])
    .ret)
    .skip))
    (.seq (.region [⟨some 18, none, .mov (.t 0)⟩,
      ⟨some 19, none, .len false (.t 18)⟩,
      ⟨some 8, none, .mov (.t 19)⟩])
    (.seq (.seq (.region [⟨some 20, none, .mov (.t 1)⟩,
      ⟨some 21, none, .mov (.t 8)⟩,
      ⟨some 22, none, .bin false .eql (.t 20) (.t 21)⟩])
    (.cond (.t 22) (.seq (.region [⟨some 23, none, .mov (.t 0)⟩,
      ⟨some 24, none, .mov (.t 2)⟩,
      ⟨some 25, none, .app 0 29 3 56 (.t 23) (.t 24)⟩,
      ⟨some 6, none, .mov (.t 25)⟩])
    .ret)
    .skip))
    (.seq (.seq (.region [⟨some 26, none, .mov (.t 8)⟩,
      ⟨some 27, none, .mov (.t 7)⟩,
      ⟨some 28, none, .bin false .add (.t 26) (.t 27)⟩,
      ⟨some 29, none, .mov (.t 0)⟩,
      ⟨some 30, none, .bad⟩,
      ⟨some 31, none, .bin false .gtr (.t 28) (.t 30)⟩])
    (.cond (.t 31) (.seq (.region [⟨some 32, none, .mov (.t 0)⟩,
      ⟨some 33, none, .mov (.t 1)⟩,
      ⟨some 34, none, .slcH 3 (.t 32) (.t 33)⟩,
      ⟨some 35, none, .mov (.t 8)⟩,
      ⟨some 36, none, .mov (.t 7)⟩,
      ⟨some 37, none, .bin false .add (.t 35) (.t 36)⟩,
      ⟨some 38, none, .mov (.t 1)⟩,
      ⟨some 39, none, .bin false .sub (.t 37) (.t 38)⟩,
      ⟨some 40, none, .bad⟩,
      ⟨some 9, none, .mov (.t 40)⟩])
    (.seq (.region [⟨some 41, none, .mov (.t 9)⟩,
      ⟨some 42, none, .mov (.t 1)⟩,
      ⟨some 43, none, .slcT 0 3 (.t 41) (.t 42)⟩,
      ⟨some 44, none, .mov (.t 2)⟩,
      ⟨some 45, none, .bad⟩])
    (.seq (.draw [4, 8] [⟨some 46, none, .mov (.t 9)⟩,
      ⟨some 47, none, .mov (.t 1)⟩,
      ⟨some 48, none, .mov (.t 7)⟩,
      ⟨some 49, none, .bin false .add (.t 47) (.t 48)⟩,
      ⟨some 50, none, .slcT 0 3 (.t 46) (.t 49)⟩,
      ⟨some 51, none, .mov (.t 0)⟩,
      ⟨some 52, none, .mov (.t 1)⟩,
      ⟨some 53, none, .slcT 0 3 (.t 51) (.t 52)⟩,
      ⟨some 54, none, .bad⟩])
    (.seq (.region [⟨some 55, none, .mov (.t 9)⟩,
      ⟨some 6, none, .mov (.t 55)⟩])
    .ret))))
    .skip))
    (.seq (.region [⟨some 56, none, .mov (.t 0)⟩,
      ⟨some 57, none, .mov (.t 8)⟩,
      ⟨some 58, none, .mov (.t 7)⟩,
      ⟨some 59, none, .bin false .add (.t 57) (.t 58)⟩,
      ⟨some 60, none, .slcH 3 (.t 56) (.t 59)⟩,
      ⟨some 0, none, .mov (.t 60)⟩])
    (.seq (.seq (.region [⟨some 61, none, .mov (.t 2)⟩,
      ⟨some 62, none, .mov (.t 0)⟩,
      ⟨some 63, none, .mov (.t 1)⟩,
      ⟨some 64, none, .mov (.t 7)⟩,
      ⟨some 65, none, .bin false .add (.t 63) (.t 64)⟩,
      ⟨some 66, none, .slcT 0 3 (.t 62) (.t 65)⟩,
      ⟨some 67, none, .bad⟩,
      ⟨some 68, none, .un .not (.t 67)⟩])
    (.cond (.t 68) (.seq (.draw [4, 8] [⟨some 69, none, .mov (.t 0)⟩,
      ⟨some 70, none, .mov (.t 1)⟩,
      ⟨some 71, none, .mov (.t 7)⟩,
      ⟨some 72, none, .bin false .add (.t 70) (.t 71)⟩,
      ⟨some 73, none, .slcT 0 3 (.t 69) (.t 72)⟩,
      ⟨some 74, none, .mov (.t 0)⟩,
      ⟨some 75, none, .mov (.t 1)⟩,
      ⟨some 76, none, .slcT 0 3 (.t 74) (.t 75)⟩,
      ⟨some 77, none, .bad⟩])
    (.seq (.region [⟨some 78, none, .mov (.t 0)⟩,
      ⟨some 79, none, .mov (.t 1)⟩,
      ⟨some 80, none, .slcT 0 3 (.t 78) (.t 79)⟩,
      ⟨some 81, none, .mov (.t 2)⟩,
      ⟨some 82, none, .bad⟩])
    (.seq (.region [⟨some 83, none, .mov (.t 0)⟩,
      ⟨some 6, none, .mov (.t 83)⟩])
    .ret)))
    .skip))
    (.seq (.region [⟨some 84, none, .mov (.t 0)⟩,
      ⟨some 85, none, .mov (.t 8)⟩,
      ⟨some 86, none, .slcT 0 3 (.t 84) (.t 85)⟩,
      ⟨some 87, none, .mov (.t 2)⟩,
      ⟨some 88, none, .bad⟩])
    (.seq (.region [⟨some 89, none, .mov (.t 0)⟩,
      ⟨some 90, none, .mov (.t 1)⟩,
      ⟨some 91, none, .slcT 0 3 (.t 89) (.t 90)⟩,
      ⟨some 92, none, .mov (.t 7)⟩,
      ⟨some 93, none, .call i_slices_rotateRight_api_Field [.t 91, .t 92]⟩])
    (.seq (.region [⟨some 94, none, .mov (.t 0)⟩,
      ⟨some 6, none, .mov (.t 94)⟩])
    .ret)))))))))))), [.tmp 6]⟩
theorem T_slices_Insert_api_Field_api_Field : trFn Tryz.prog [(1, [0, 0, 1000]), (9, [0, 0, 901, 0, 0, 0, 0, 0, 0, 0]), (10, [0, 0, 1000, 0, 0]), (11, [0, 0, 0, 0, 1000, 0, 0, 1000, 0]), (13, [0, 0, 0, 0, 901, 0]), (14, [0, 0, 0, 0, 0, 1000, 0, 0]), (15, [0, 0, 0, 0, 1000, 0, 0, 1000, 0]), (16, [0, 0, 1000, 0, 0]), (18, [0, 0, 1000, 0, 0]), (19, [0, 0, 1000, 0, 0]), (1000011, [4, 8]), (1000015, [4, 8])] Tryz.f206 = some A_slices_Insert_api_Field_api_Field := by kernel_rfl
theorem L_slices_Insert_api_Field_api_Field : 3 ≤ Tryz.f206.ntmps := by decide

/-! cartouche/wire.PutTag -/
def A_wire_PutTag : AFn := ⟨(.seq (.region [⟨some 4, none, .mov (.c (.nil))⟩,
      ⟨some 5, none, .mov (.c (.int .i64 0))⟩])
    (.seq (.block 0 (.seq (.region [⟨some 7, none, .mov (.t 0)⟩,
      ⟨some 8, none, .bin false .lss (.t 7) (.c (.int .i64 1))⟩,
      ⟨some 9, none, .mov (.t 8)⟩,
      ⟨some 10, some (9, false), .mov (.t 0)⟩,
      ⟨some 11, some (9, false), .bin false .gtr (.t 10) (.c (.int .i64 536870911))⟩,
      ⟨some 12, none, .pickb (.t 9) (.c (.bool true)) (.t 11)⟩,
      ⟨some 6, none, .mov (.t 12)⟩])
    (.cond (.t 6) (.seq (.region [⟨some 4, none, .mov (.c (.nil))⟩,
      ⟨some 5, none, .mov (.c (.int .i64 5))⟩])
    .ret)
    (.seq (.region [⟨some 14, none, .mov (.t 1)⟩,
      ⟨some 15, none, .call i_wire_isKind [.t 14]⟩,
      ⟨some 16, none, .un .not (.t 15)⟩,
      ⟨some 13, none, .mov (.t 16)⟩])
    (.cond (.t 13) (.seq (.region [⟨some 4, none, .mov (.c (.nil))⟩,
      ⟨some 5, none, .mov (.c (.int .i64 6))⟩])
    .ret)
    .skip)))))
    (.seq (.region [⟨some 17, none, .mov (.t 0)⟩,
      ⟨some 18, none, .conv .u64 (.t 17)⟩,
      ⟨some 19, none, .bin false .mul (.t 18) (.c (.int .u64 8))⟩,
      ⟨some 20, none, .mov (.t 1)⟩,
      ⟨some 21, none, .conv .u64 (.t 20)⟩,
      ⟨some 22, none, .bin false .add (.t 19) (.t 21)⟩,
      ⟨some 23, none, .call i_wire_PutVarint [.t 22]⟩,
      ⟨some 4, none, .mov (.t 23)⟩,
      ⟨some 5, none, .mov (.c (.int .i64 0))⟩])
    .ret))), [.tmp 4, .tmp 5]⟩
theorem T_wire_PutTag : trFn Tryz.prog [] Tryz.f207 = some A_wire_PutTag := by kernel_rfl
theorem L_wire_PutTag : 2 ≤ Tryz.f207.ntmps := by decide

/-! cartouche/wire.GetTag -/
def A_wire_GetTag : AFn := ⟨(.seq (.region [⟨some 4, none, .mov (.c (.int .i64 0))⟩,
      ⟨some 5, none, .mov (.c (.int .i64 0))⟩,
      ⟨some 6, none, .mov (.c (.int .i64 0))⟩,
      ⟨some 7, none, .mov (.c (.int .i64 0))⟩])
    (.seq (.region [⟨some 10, none, .mov (.t 0)⟩,
      ⟨some 11, none, .mov (.t 1)⟩,
      ⟨some 12, none, .call i_wire_GetVarint [.t 10, .t 11]⟩,
      ⟨some 9, none, .mov (.t 12)⟩,
      ⟨some 13, none, .ext 0 (.t 9)⟩,
      ⟨some 14, none, .ext 1 (.t 9)⟩,
      ⟨some 15, none, .ext 2 (.t 9)⟩,
      ⟨some 8, none, .mov (.t 13)⟩,
      ⟨some 6, none, .mov (.t 14)⟩,
      ⟨some 7, none, .mov (.t 15)⟩])
    (.seq (.block 0 (.seq (.region [⟨some 17, none, .mov (.t 7)⟩,
      ⟨some 18, none, .bin false .neq (.t 17) (.c (.int .i64 0))⟩,
      ⟨some 16, none, .mov (.t 18)⟩])
    (.cond (.t 16) (.seq (.region [⟨some 19, none, .mov (.t 7)⟩,
      ⟨some 4, none, .mov (.c (.int .i64 0))⟩,
      ⟨some 5, none, .mov (.c (.int .i64 0))⟩,
      ⟨some 6, none, .mov (.c (.int .i64 0))⟩,
      ⟨some 7, none, .mov (.t 19)⟩])
    .ret)
    (.seq (.region [⟨some 21, none, .mov (.t 8)⟩,
      ⟨some 22, none, .bin false .quo (.t 21) (.c (.int .u64 8))⟩,
      ⟨some 23, none, .bin false .eql (.t 22) (.c (.int .u64 0))⟩,
      ⟨some 24, none, .mov (.t 23)⟩,
      ⟨some 25, some (24, false), .mov (.t 8)⟩,
      ⟨some 26, some (24, false), .bin false .quo (.t 25) (.c (.int .u64 8))⟩,
      ⟨some 27, some (24, false), .bin false .gtr (.t 26) (.c (.int .u64 536870911))⟩,
      ⟨some 28, none, .pickb (.t 24) (.c (.bool true)) (.t 27)⟩,
      ⟨some 20, none, .mov (.t 28)⟩])
    (.cond (.t 20) (.seq (.region [⟨some 4, none, .mov (.c (.int .i64 0))⟩,
      ⟨some 5, none, .mov (.c (.int .i64 0))⟩,
      ⟨some 6, none, .mov (.c (.int .i64 0))⟩,
      ⟨some 7, none, .mov (.c (.int .i64 5))⟩])
    .ret)
    (.seq (.region [⟨some 30, none, .mov (.t 8)⟩,
      ⟨some 31, none, .bin false .rem (.t 30) (.c (.int .u64 8))⟩,
      ⟨some 32, none, .conv .i64 (.t 31)⟩,
      ⟨some 33, none, .call i_wire_isKind [.t 32]⟩,
      ⟨some 34, none, .un .not (.t 33)⟩,
      ⟨some 29, none, .mov (.t 34)⟩])
    (.cond (.t 29) (.seq (.region [⟨some 4, none, .mov (.c (.int .i64 0))⟩,
      ⟨some 5, none, .mov (.c (.int .i64 0))⟩,
      ⟨some 6, none, .mov (.c (.int .i64 0))⟩,
      ⟨some 7, none, .mov (.c (.int .i64 6))⟩])
    .ret)
    .skip)))))))
    (.seq (.region [⟨some 35, none, .mov (.t 8)⟩,
      ⟨some 36, none, .bin false .quo (.t 35) (.c (.int .u64 8))⟩,
      ⟨some 37, none, .conv .i64 (.t 36)⟩,
      ⟨some 38, none, .mov (.t 8)⟩,
      ⟨some 39, none, .bin false .rem (.t 38) (.c (.int .u64 8))⟩,
      ⟨some 40, none, .conv .i64 (.t 39)⟩,
      ⟨some 41, none, .mov (.t 6)⟩,
      ⟨some 4, none, .mov (.t 37)⟩,
      ⟨some 5, none, .mov (.t 40)⟩,
      ⟨some 6, none, .mov (.t 41)⟩,
      ⟨some 7, none, .mov (.c (.int .i64 0))⟩])
    .ret)))), [.tmp 4, .tmp 5, .tmp 6, .tmp 7]⟩
theorem T_wire_GetTag : trFn Tryz.prog [] Tryz.f208 = some A_wire_GetTag := by kernel_rfl
theorem L_wire_GetTag : 2 ≤ Tryz.f208.ntmps := by decide

/-! cartouche/wire.read -/
def A_wire_read : AFn := ⟨(.seq (.region [⟨some 6, none, .mov (.c (.int .u64 0))⟩,
      ⟨some 7, none, .mov (.c (.int .i64 0))⟩,
      ⟨some 8, none, .mov (.c (.int .i64 0))⟩])
    (.seq (.block 0 (.seq (.region [⟨some 11, none, .mov (.t 0)⟩,
      ⟨some 12, none, .mov (.t 1)⟩,
      ⟨some 13, none, .call i_wire_place [.t 11, .t 12]⟩,
      ⟨some 14, none, .un .not (.t 13)⟩,
      ⟨some 10, none, .mov (.t 14)⟩])
    (.cond (.t 10) (.seq (.region [⟨some 6, none, .mov (.c (.int .u64 0))⟩,
      ⟨some 7, none, .mov (.c (.int .i64 0))⟩,
      ⟨some 8, none, .mov (.c (.int .i64 18))⟩])
    .ret)
    (.seq (.region [⟨some 16, none, .mov (.t 0)⟩,
      ⟨some 17, none, .len false (.t 16)⟩,
      ⟨some 18, none, .mov (.t 1)⟩,
      ⟨some 19, none, .bin false .sub (.t 17) (.t 18)⟩,
      ⟨some 20, none, .mov (.t 2)⟩,
      ⟨some 21, none, .bin false .lss (.t 19) (.t 20)⟩,
      ⟨some 15, none, .mov (.t 21)⟩])
    (.cond (.t 15) (.seq (.region [⟨some 6, none, .mov (.c (.int .u64 0))⟩,
      ⟨some 7, none, .mov (.c (.int .i64 0))⟩,
      ⟨some 8, none, .mov (.c (.int .i64 3))⟩])
    .ret)
    .skip)))))
    (.seq (.seq (.region [⟨some 22, none, .mov (.t 2)⟩,
      ⟨some 23, none, .mov (.c (.int .i64 0))⟩])
    (.block 1 (.loop (.seq (.region [⟨some 24, none, .bin false .lss (.t 23) (.t 22)⟩])
    (.seq (.cond (.t 24) .skip
    (.exit 1))
    (.seq (.block 2 (.seq (.region [⟨some 25, none, .mov (.t 23)⟩,
      ⟨some 9, none, .mov (.t 25)⟩])
    (.region [⟨some 26, none, .mov (.t 6)⟩,
      ⟨some 27, none, .mov (.t 0)⟩,
      ⟨some 28, none, .mov (.t 1)⟩,
      ⟨some 29, none, .mov (.t 9)⟩,
      ⟨some 30, none, .bin false .add (.t 28) (.t 29)⟩,
      ⟨some 31, none, .idxA 1 (.t 27) (.t 30)⟩,
      ⟨some 32, none, .load 1 false (.t 31)⟩,
      ⟨some 33, none, .conv .u64 (.t 32)⟩,
      ⟨some 34, none, .mov (.t 9)⟩,
      ⟨some 35, none, .bin false .mul (.c (.int .i64 8)) (.t 34)⟩,
      ⟨some 36, none, .bin false .shl (.t 33) (.t 35)⟩,
      ⟨some 37, none, .bin false .or (.t 26) (.t 36)⟩,
      ⟨some 6, none, .mov (.t 37)⟩])))
    (.region [⟨some 38, none, .bin false .add (.t 23) (.c (.int .i64 1))⟩,
      ⟨some 23, none, .mov (.t 38)⟩])))))))
    (.seq (.region [⟨some 39, none, .mov (.t 6)⟩,
      ⟨some 40, none, .mov (.t 1)⟩,
      ⟨some 41, none, .mov (.t 2)⟩,
      ⟨some 42, none, .bin false .add (.t 40) (.t 41)⟩,
      ⟨some 6, none, .mov (.t 39)⟩,
      ⟨some 7, none, .mov (.t 42)⟩,
      ⟨some 8, none, .mov (.c (.int .i64 0))⟩])
    .ret)))), [.tmp 6, .tmp 7, .tmp 8]⟩
theorem T_wire_read : trFn Tryz.prog [] Tryz.f209 = some A_wire_read := by kernel_rfl
theorem L_wire_read : 3 ≤ Tryz.f209.ntmps := by decide

/-! cartouche/wire.GetChunk -/
def A_wire_GetChunk : AFn := ⟨(.seq (.region [⟨some 4, none, .mov (.c (.nil))⟩,
      ⟨some 5, none, .mov (.c (.int .i64 0))⟩,
      ⟨some 6, none, .mov (.c (.int .i64 0))⟩])
    (.seq (.region [⟨some 10, none, .mov (.t 0)⟩,
      ⟨some 11, none, .mov (.t 1)⟩,
      ⟨some 12, none, .call i_wire_Span [.t 10, .t 11]⟩,
      ⟨some 9, none, .mov (.t 12)⟩,
      ⟨some 13, none, .ext 0 (.t 9)⟩,
      ⟨some 14, none, .ext 1 (.t 9)⟩,
      ⟨some 15, none, .ext 2 (.t 9)⟩,
      ⟨some 7, none, .mov (.t 13)⟩,
      ⟨some 8, none, .mov (.t 14)⟩,
      ⟨some 6, none, .mov (.t 15)⟩])
    (.seq (.seq (.region [⟨some 16, none, .mov (.t 6)⟩,
      ⟨some 17, none, .bin false .neq (.t 16) (.c (.int .i64 0))⟩])
    (.cond (.t 17) (.seq (.region [⟨some 18, none, .mov (.t 6)⟩,
      ⟨some 4, none, .mov (.c (.nil))⟩,
      ⟨some 5, none, .mov (.c (.int .i64 0))⟩,
      ⟨some 6, none, .mov (.t 18)⟩])
    .ret)
    .skip))
    (.seq (.draw [3, 8] [⟨some 19, none, .mov (.t 8)⟩,
      ⟨some 20, none, .mov (.t 7)⟩,
      ⟨some 21, none, .bin false .sub (.t 19) (.t 20)⟩,
      ⟨some 22, none, .mks 0 5 1 1 (.int .u8 0) (.c (.int .i64 0)) (.t 21)⟩,
      ⟨some 23, none, .mov (.t 0)⟩,
      ⟨some 24, none, .mov (.t 7)⟩,
      ⟨some 25, none, .mov (.t 8)⟩,
      ⟨some 26, none, .slc 1 (.t 23) (some (.t 24)) (some (.t 25)) none⟩,
      ⟨some 27, none, .app 0 5 1 1 (.t 22) (.t 26)⟩,
      ⟨some 28, none, .mov (.t 8)⟩,
      ⟨some 4, none, .mov (.t 27)⟩,
      ⟨some 5, none, .mov (.t 28)⟩,
      ⟨some 6, none, .mov (.c (.int .i64 0))⟩])
    .ret)))), [.tmp 4, .tmp 5, .tmp 6]⟩
theorem T_wire_GetChunk : trFn Tryz.prog [(1000004, [3, 8])] Tryz.f210 = some A_wire_GetChunk := by kernel_rfl
theorem L_wire_GetChunk : 2 ≤ Tryz.f210.ntmps := by decide

/-! math/bits.Len64 -/
def A_bits_Len64 : AFn := ⟨(.seq (.region [⟨some 2, none, .mov (.c (.int .i64 0))⟩])
    (.seq (.seq (.region [⟨some 3, none, .mov (.t 0)⟩,
      ⟨some 4, none, .bin false .geq (.t 3) (.c (.int .u64 4294967296))⟩])
    (.cond (.t 4) (.seq (.region [⟨some 5, none, .mov (.t 0)⟩,
      ⟨some 6, none, .bin false .shr (.t 5) (.c (.int .u64 32))⟩,
      ⟨some 0, none, .mov (.t 6)⟩])
    (.region [⟨some 2, none, .mov (.c (.int .i64 32))⟩]))
    .skip))
    (.seq (.seq (.region [⟨some 7, none, .mov (.t 0)⟩,
      ⟨some 8, none, .bin false .geq (.t 7) (.c (.int .u64 65536))⟩])
    (.cond (.t 8) (.seq (.region [⟨some 9, none, .mov (.t 0)⟩,
      ⟨some 10, none, .bin false .shr (.t 9) (.c (.int .u64 16))⟩,
      ⟨some 0, none, .mov (.t 10)⟩])
    (.region [⟨some 11, none, .mov (.t 2)⟩,
      ⟨some 12, none, .bin false .add (.t 11) (.c (.int .i64 16))⟩,
      ⟨some 2, none, .mov (.t 12)⟩]))
    .skip))
    (.seq (.seq (.region [⟨some 13, none, .mov (.t 0)⟩,
      ⟨some 14, none, .bin false .geq (.t 13) (.c (.int .u64 256))⟩])
    (.cond (.t 14) (.seq (.region [⟨some 15, none, .mov (.t 0)⟩,
      ⟨some 16, none, .bin false .shr (.t 15) (.c (.int .u64 8))⟩,
      ⟨some 0, none, .mov (.t 16)⟩])
    (.region [⟨some 17, none, .mov (.t 2)⟩,
      ⟨some 18, none, .bin false .add (.t 17) (.c (.int .i64 8))⟩,
      ⟨some 2, none, .mov (.t 18)⟩]))
    .skip))
    (.seq (.region [⟨some 19, none, .mov (.t 2)⟩,
      ⟨some 20, none, .mov (.t 0)⟩,
      ⟨some 21, none, .conv .u8 (.t 20)⟩,
      ⟨some 22, none, .idxS (.c (.str ⟨#[0, 1, 2, 2, 3, 3, 3, 3, 4, 4, 4, 4, 4, 4, 4, 4, 5, 5, 5, 5, 5, 5, 5, 5, 5, 5, 5, 5, 5, 5, 5, 5, 6, 6, 6, 6, 6, 6, 6, 6, 6, 6, 6, 6, 6, 6, 6, 6, 6, 6, 6, 6, 6, 6, 6, 6, 6, 6, 6, 6, 6, 6, 6, 6, 7, 7, 7, 7, 7, 7, 7, 7, 7, 7, 7, 7, 7, 7, 7, 7, 7, 7, 7, 7, 7, 7, 7, 7, 7, 7, 7, 7, 7, 7, 7, 7, 7, 7, 7, 7, 7, 7, 7, 7, 7, 7, 7, 7, 7, 7, 7, 7, 7, 7, 7, 7, 7, 7, 7, 7, 7, 7, 7, 7, 7, 7, 7, 7, 8, 8, 8, 8, 8, 8, 8, 8, 8, 8, 8, 8, 8, 8, 8, 8, 8, 8, 8, 8, 8, 8, 8, 8, 8, 8, 8, 8, 8, 8, 8, 8, 8, 8, 8, 8, 8, 8, 8, 8, 8, 8, 8, 8, 8, 8, 8, 8, 8, 8, 8, 8, 8, 8, 8, 8, 8, 8, 8, 8, 8, 8, 8, 8, 8, 8, 8, 8, 8, 8, 8, 8, 8, 8, 8, 8, 8, 8, 8, 8, 8, 8, 8, 8, 8, 8, 8, 8, 8, 8, 8, 8, 8, 8, 8, 8, 8, 8, 8, 8, 8, 8, 8, 8, 8, 8, 8, 8, 8, 8, 8, 8, 8, 8, 8, 8, 8, 8, 8, 8, 8, 8, 8, 8, 8, 8, 8, 8]⟩)) (.t 21)⟩,
      ⟨some 23, none, .conv .i64 (.t 22)⟩,
      ⟨some 24, none, .bin false .add (.t 19) (.t 23)⟩,
      ⟨some 2, none, .mov (.t 24)⟩])
    .ret))))), [.tmp 2]⟩
theorem T_bits_Len64 : trFn Tryz.prog [] Tryz.f211 = some A_bits_Len64 := by kernel_rfl
theorem L_bits_Len64 : 1 ≤ Tryz.f211.ntmps := by decide

/-! cartouche/wire.place -/
def A_wire_place : AFn := ⟨(.seq (.region [⟨some 4, none, .mov (.c (.bool false))⟩])
    (.seq (.region [⟨some 5, none, .mov (.t 1)⟩,
      ⟨some 6, none, .bin false .geq (.t 5) (.c (.int .i64 0))⟩,
      ⟨some 7, none, .mov (.t 6)⟩,
      ⟨some 8, some (7, true), .mov (.t 1)⟩,
      ⟨some 9, some (7, true), .mov (.t 0)⟩,
      ⟨some 10, some (7, true), .len false (.t 9)⟩,
      ⟨some 11, some (7, true), .bin false .leq (.t 8) (.t 10)⟩,
      ⟨some 12, none, .pickb (.t 7) (.t 11) (.c (.bool false))⟩,
      ⟨some 4, none, .mov (.t 12)⟩])
    .ret)), [.tmp 4]⟩
theorem T_wire_place : trFn Tryz.prog [] Tryz.f212 = some A_wire_place := by kernel_rfl
theorem L_wire_place : 2 ≤ Tryz.f212.ntmps := by decide

/-! cartouche/model.typedVal -/
def A_model_typedVal : AFn := ⟨(.seq (.region [⟨some 4, none, .box 0 (.t 0)⟩,
      ⟨some 7, none, .box 0 (.t 3)⟩,
      ⟨some 8, none, .mov (.c (.bool false))⟩])
    (.seq (.seq (.region [⟨some 11, none, .mov (.t 1)⟩])
    (.block 0 (.seq (.region [⟨some 13, none, .bin false .eql (.t 11) (.c (.int .i64 17))⟩,
      ⟨some 12, none, .mov (.t 13)⟩])
    (.cond (.t 12) (.seq (.draw [1, 5, 6, 11, 12, 16, 22, 1000019, 1000020, 1000021, 2000022] [⟨some 14, none, .fldA 0 1 false (.t 7)⟩,
      ⟨some 15, none, .load 1 false (.t 14)⟩,
      ⟨some 16, none, .bin false .eql (.t 15) (.c (.int .u64 0))⟩,
      ⟨some 17, none, .mov (.t 16)⟩,
      ⟨some 18, some (17, true), .fldA 1 1 false (.t 7)⟩,
      ⟨some 19, some (17, true), .load 1 false (.t 18)⟩,
      ⟨some 20, some (17, true), .len false (.t 19)⟩,
      ⟨some 21, some (17, true), .bin false .eql (.t 20) (.c (.int .i64 0))⟩,
      ⟨some 22, none, .pickb (.t 17) (.t 21) (.c (.bool false))⟩,
      ⟨some 23, none, .mov (.t 22)⟩,
      ⟨some 24, some (23, true), .fldA 2 1 false (.t 7)⟩,
      ⟨some 25, some (23, true), .load 1 false (.t 24)⟩,
      ⟨some 26, some (23, true), .len false (.t 25)⟩,
      ⟨some 27, some (23, true), .bin false .eql (.t 26) (.c (.int .i64 1))⟩,
      ⟨some 28, none, .pickb (.t 23) (.t 27) (.c (.bool false))⟩,
      ⟨some 29, none, .mov (.t 28)⟩,
      ⟨some 30, some (29, true), .load 1 true (.t 4)⟩,
      ⟨some 31, some (29, true), .mov (.t 2)⟩,
      ⟨some 32, some (29, true), .fldA 2 1 false (.t 7)⟩,
      ⟨some 33, some (29, true), .load 1 false (.t 32)⟩,
      ⟨some 34, some (29, true), .idxA 2 (.t 33) (.c (.int .i64 0))⟩,
      ⟨some 35, some (29, true), .load 2 true (.t 34)⟩,
      ⟨some 36, some (29, true), .call i_model_typed [.t 30, .t 31, .t 35]⟩,
      ⟨some 37, none, .pickb (.t 29) (.t 36) (.c (.bool false))⟩,
      ⟨some 8, none, .mov (.t 37)⟩])
    .ret)
    (.seq (.region [⟨some 39, none, .bin false .eql (.t 11) (.c (.int .i64 16))⟩,
      ⟨some 38, none, .mov (.t 39)⟩])
    (.cond (.t 38) (.seq (.seq (.region [⟨some 40, none, .mov (.t 1)⟩,
      ⟨some 41, none, .load 3 true (.t 7)⟩,
      ⟨some 42, none, .call i_scalar_Fits [.t 40, .t 41]⟩,
      ⟨some 43, none, .un .not (.t 42)⟩])
    (.cond (.t 43) (.seq (.region [⟨some 8, none, .mov (.c (.bool false))⟩])
    .ret)
    .skip))
    (.seq (.draw [1, 3, 4, 8, 1000006, 2000008] [⟨some 45, none, .fldA 0 1 false (.t 4)⟩,
      ⟨some 46, none, .load 1 false (.t 45)⟩,
      ⟨some 47, none, .mov (.t 2)⟩,
      ⟨some 48, none, .idxA 6 (.t 46) (.t 47)⟩,
      ⟨some 49, none, .load 6 true (.t 48)⟩,
      ⟨some 50, none, .fldA 0 1 false (.t 7)⟩,
      ⟨some 51, none, .load 1 false (.t 50)⟩,
      ⟨some 52, none, .conv .i64 (.t 51)⟩,
      ⟨some 53, none, .call i_table_SymbolAt [.t 49, .t 52]⟩,
      ⟨some 44, none, .mov (.t 53)⟩,
      ⟨some 54, none, .ext 0 (.t 44)⟩,
      ⟨some 55, none, .ext 1 (.t 44)⟩,
      ⟨some 9, none, .mov (.t 54)⟩,
      ⟨some 10, none, .mov (.t 55)⟩])
    (.seq (.region [⟨some 56, none, .mov (.t 10)⟩,
      ⟨some 8, none, .mov (.t 56)⟩])
    .ret)))
    (.seq (.region [⟨some 58, none, .bin false .eql (.t 11) (.c (.int .i64 14))⟩,
      ⟨some 57, none, .mov (.t 58)⟩])
    (.cond (.t 57) (.seq (.region [⟨some 59, none, .mov (.t 1)⟩,
      ⟨some 60, none, .load 3 true (.t 7)⟩,
      ⟨some 61, none, .call i_scalar_Fits [.t 59, .t 60]⟩,
      ⟨some 62, none, .mov (.t 61)⟩,
      ⟨some 63, some (62, true), .fldA 1 1 false (.t 7)⟩,
      ⟨some 64, some (62, true), .load 1 false (.t 63)⟩,
      ⟨some 65, some (62, true), .call i_quote_Valid [.t 64]⟩,
      ⟨some 66, none, .pickb (.t 62) (.t 65) (.c (.bool false))⟩,
      ⟨some 8, none, .mov (.t 66)⟩])
    .ret)
    .skip))))))))
    (.seq (.region [⟨some 67, none, .mov (.t 1)⟩,
      ⟨some 68, none, .load 3 true (.t 7)⟩,
      ⟨some 69, none, .call i_scalar_Fits [.t 67, .t 68]⟩,
      ⟨some 8, none, .mov (.t 69)⟩])
    .ret))), [.tmp 8]⟩
theorem T_model_typedVal : trFn Tryz.prog [(0, [1, 1, 0]), (1000003, [1, 5, 6, 11, 12, 16, 22, 1000019, 1000020, 1000021, 2000022]), (1000007, [1, 3, 4, 8, 1000006, 2000008])] Tryz.f216 = some A_model_typedVal := by kernel_rfl
theorem L_model_typedVal : 4 ≤ Tryz.f216.ntmps := by decide

/-! cartouche/scalar.Compare -/
def A_scalar_Compare : AFn := ⟨(.seq (.region [⟨some 4, none, .box 0 (.t 1)⟩,
      ⟨some 5, none, .box 0 (.t 2)⟩,
      ⟨some 6, none, .mov (.c (.int .i64 0))⟩,
      ⟨some 7, none, .mov (.c (.int .i64 0))⟩])
    (.seq (.block 0 (.seq (.region [⟨some 9, none, .mov (.t 0)⟩,
      ⟨some 10, none, .call i_scalar_IsKey [.t 9]⟩,
      ⟨some 11, none, .un .not (.t 10)⟩,
      ⟨some 8, none, .mov (.t 11)⟩])
    (.cond (.t 8) (.seq (.region [⟨some 6, none, .mov (.c (.int .i64 0))⟩,
      ⟨some 7, none, .mov (.c (.int .i64 18))⟩])
    .ret)
    (.seq (.region [⟨some 13, none, .mov (.t 0)⟩,
      ⟨some 14, none, .load 3 true (.t 4)⟩,
      ⟨some 15, none, .call i_scalar_Fits [.t 13, .t 14]⟩,
      ⟨some 16, none, .un .not (.t 15)⟩,
      ⟨some 17, none, .mov (.t 16)⟩,
      ⟨some 18, some (17, false), .mov (.t 0)⟩,
      ⟨some 19, some (17, false), .load 3 true (.t 5)⟩,
      ⟨some 20, some (17, false), .call i_scalar_Fits [.t 18, .t 19]⟩,
      ⟨some 21, some (17, false), .un .not (.t 20)⟩,
      ⟨some 22, none, .pickb (.t 17) (.c (.bool true)) (.t 21)⟩,
      ⟨some 12, none, .mov (.t 22)⟩])
    (.cond (.t 12) (.seq (.region [⟨some 6, none, .mov (.c (.int .i64 0))⟩,
      ⟨some 7, none, .mov (.c (.int .i64 7))⟩])
    .ret)
    (.seq (.region [⟨some 24, none, .mov (.t 0)⟩,
      ⟨some 25, none, .bin false .eql (.t 24) (.c (.int .i64 14))⟩,
      ⟨some 23, none, .mov (.t 25)⟩])
    (.cond (.t 23) (.seq (.region [⟨some 26, none, .fldA 1 1 false (.t 4)⟩,
      ⟨some 27, none, .load 1 false (.t 26)⟩,
      ⟨some 28, none, .fldA 1 1 false (.t 5)⟩,
      ⟨some 29, none, .load 1 false (.t 28)⟩,
      ⟨some 30, none, .call i_bytes_Compare [.t 27, .t 29]⟩,
      ⟨some 6, none, .mov (.t 30)⟩,
      ⟨some 7, none, .mov (.c (.int .i64 0))⟩])
    .ret)
    (.seq (.region [⟨some 32, none, .mov (.t 0)⟩,
      ⟨some 33, none, .call i_scalar_signed [.t 32]⟩,
      ⟨some 31, none, .mov (.t 33)⟩])
    (.cond (.t 31) (.seq (.region [⟨some 34, none, .fldA 0 1 false (.t 4)⟩,
      ⟨some 35, none, .load 1 false (.t 34)⟩,
      ⟨some 36, none, .conv .i64 (.t 35)⟩,
      ⟨some 37, none, .fldA 0 1 false (.t 5)⟩,
      ⟨some 38, none, .load 1 false (.t 37)⟩,
      ⟨some 39, none, .conv .i64 (.t 38)⟩,
      ⟨some 40, none, .call i_cmp_Compare_int64 [.t 36, .t 39]⟩,
      ⟨some 6, none, .mov (.t 40)⟩,
      ⟨some 7, none, .mov (.c (.int .i64 0))⟩])
    .ret)
    .skip)))))))))
    (.seq (.region [⟨some 41, none, .fldA 0 1 false (.t 4)⟩,
      ⟨some 42, none, .load 1 false (.t 41)⟩,
      ⟨some 43, none, .fldA 0 1 false (.t 5)⟩,
      ⟨some 44, none, .load 1 false (.t 43)⟩,
      ⟨some 45, none, .call i_cmp_Compare_uint64 [.t 42, .t 44]⟩,
      ⟨some 6, none, .mov (.t 45)⟩,
      ⟨some 7, none, .mov (.c (.int .i64 0))⟩])
    .ret))), [.tmp 6, .tmp 7]⟩
theorem T_scalar_Compare : trFn Tryz.prog [(0, [1, 1, 0, 0])] Tryz.f217 = some A_scalar_Compare := by kernel_rfl
theorem L_scalar_Compare : 3 ≤ Tryz.f217.ntmps := by decide

/-! cartouche/model.typedField$1 -/
def A_model_typedField_1 : AFn := ⟨(.seq (.region [⟨some 3, none, .box 0 (.t 0)⟩,
      ⟨some 4, none, .mov (.c (.bool false))⟩])
    (.seq (.region [⟨some 5, none, .load 1 true (.t 1)⟩,
      ⟨some 6, none, .fldA 2 1 false (.t 2)⟩,
      ⟨some 7, none, .load 1 false (.t 6)⟩,
      ⟨some 8, none, .fldA 3 1 false (.t 2)⟩,
      ⟨some 9, none, .load 1 false (.t 8)⟩,
      ⟨some 10, none, .load 3 true (.t 3)⟩,
      ⟨some 11, none, .call i_model_typedVal [.t 5, .t 7, .t 9, .t 10]⟩,
      ⟨some 12, none, .un .not (.t 11)⟩,
      ⟨some 4, none, .mov (.t 12)⟩])
    .ret)), [.tmp 4]⟩
theorem T_model_typedField_1 : trFn Tryz.prog [(0, [1, 0])] Tryz.f218 = some A_model_typedField_1 := by kernel_rfl
theorem L_model_typedField_1 : 3 ≤ Tryz.f218.ntmps := by decide

/-! slices.IndexFunc[[]cartouche/api.Val,cartouche/api.Val] -/
def A_slices_IndexFunc_api_Val_api_Val : AFn := ⟨(.seq (.region [⟨some 4, none, .mov (.c (.int .i64 0))⟩])
    (.seq (.seq (.region [⟨some 6, none, .mov (.t 0)⟩,
      ⟨some 7, none, .len false (.t 6)⟩,
      ⟨some 8, none, .mov (.c (.int .i64 0))⟩])
    (.block 0 (.loop (.seq (.region [⟨some 9, none, .bin false .lss (.t 8) (.t 7)⟩])
    (.seq (.cond (.t 9) .skip
    (.exit 0))
    (.seq (.block 1 (.seq (.region [⟨some 10, none, .mov (.t 8)⟩,
      ⟨some 5, none, .mov (.t 10)⟩])
    (.seq (.region [⟨some 11, none, .mov (.t 1)⟩,
      ⟨some 12, none, .mov (.t 0)⟩,
      ⟨some 13, none, .mov (.t 5)⟩,
      ⟨some 14, none, .idxA 3 (.t 12) (.t 13)⟩,
      ⟨some 15, none, .load 3 true (.t 14)⟩,
      ⟨some 16, none, .callv (.t 11) [.t 15]⟩])
    (.cond (.t 16) (.seq (.region [⟨some 17, none, .mov (.t 5)⟩,
      ⟨some 4, none, .mov (.t 17)⟩])
    .ret)
    .skip))))
    (.region [⟨some 18, none, .bin false .add (.t 8) (.c (.int .i64 1))⟩,
      ⟨some 8, none, .mov (.t 18)⟩])))))))
    (.seq (.region [⟨some 4, none, .mov (.c (.int .i64 (-1)))⟩])
    .ret))), [.tmp 4]⟩
theorem T_slices_IndexFunc_api_Val_api_Val : trFn Tryz.prog [] Tryz.f219 = some A_slices_IndexFunc_api_Val_api_Val := by kernel_rfl
theorem L_slices_IndexFunc_api_Val_api_Val : 2 ≤ Tryz.f219.ntmps := by decide

/-! cartouche/table.HasRow -/
def A_table_HasRow : AFn := ⟨(.seq (.region [⟨some 1, none, .box 0 (.t 0)⟩,
      ⟨some 2, none, .mov (.c (.bool false))⟩])
    (.seq (.region [⟨some 3, none, .fldA 4 1 false (.t 1)⟩,
      ⟨some 4, none, .load 1 false (.t 3)⟩,
      ⟨some 5, none, .bin false .eql (.t 4) (.c (.int .i64 2))⟩,
      ⟨some 6, none, .mov (.t 5)⟩,
      ⟨some 7, some (6, false), .fldA 4 1 false (.t 1)⟩,
      ⟨some 8, some (6, false), .load 1 false (.t 7)⟩,
      ⟨some 9, some (6, false), .bin false .eql (.t 8) (.c (.int .i64 3))⟩,
      ⟨some 10, none, .pickb (.t 6) (.c (.bool true)) (.t 9)⟩,
      ⟨some 11, none, .mov (.t 10)⟩,
      ⟨some 12, some (11, true), .fldA 2 1 false (.t 1)⟩,
      ⟨some 13, some (11, true), .load 1 false (.t 12)⟩,
      ⟨some 14, some (11, true), .call i_scalar_Numeric [.t 13]⟩,
      ⟨some 15, none, .pickb (.t 11) (.t 14) (.c (.bool false))⟩,
      ⟨some 2, none, .mov (.t 15)⟩])
    .ret)), [.tmp 2]⟩
theorem T_table_HasRow : trFn Tryz.prog [(0, [1, 0])] Tryz.f220 = some A_table_HasRow := by kernel_rfl
theorem L_table_HasRow : 1 ≤ Tryz.f220.ntmps := by decide

/-! cartouche/model.each[cartouche/api.Msg] -/
def A_model_each_api_Msg : AFn := ⟨(.seq (.region [⟨some 4, none, .mov (.c (.nil))⟩])
    (.seq (.region [⟨some 8, none, .mov (.t 0)⟩,
      ⟨some 9, none, .len false (.t 8)⟩,
      ⟨some 10, none, .mks 0 35 2 48 (.agg [.nil, .nil]) (.c (.int .i64 0)) (.t 9)⟩,
      ⟨some 5, none, .mov (.t 10)⟩])
    (.seq (.seq (.region [⟨some 11, none, .mov (.t 0)⟩,
      ⟨some 12, none, .len false (.t 11)⟩,
      ⟨some 13, none, .mov (.c (.int .i64 0))⟩])
    (.block 0 (.loop (.seq (.region [⟨some 14, none, .bin false .lss (.t 13) (.t 12)⟩])
    (.seq (.cond (.t 14) .skip
    (.exit 0))
    (.seq (.block 1 (.seq (.region [⟨some 15, none, .idxA 2 (.t 11) (.t 13)⟩,
      ⟨some 16, none, .load 2 true (.t 15)⟩,
      ⟨some 7, none, .alloc 0 [.nil, .nil]⟩,
      ⟨none, none, .store 2 (.t 7) (.t 16)⟩])
    (.region [⟨some 17, none, .mov (.t 5)⟩,
      ⟨some 18, none, .mov (.t 1)⟩,
      ⟨some 19, none, .load 2 true (.t 7)⟩,
      ⟨some 20, none, .callv (.t 18) [.t 19]⟩,
      ⟨some 21, none, .blit 0 35 2 [.t 20]⟩,
      ⟨some 22, none, .app 0 35 2 48 (.t 17) (.t 21)⟩,
      ⟨some 5, none, .mov (.t 22)⟩])))
    (.region [⟨some 23, none, .bin false .add (.t 13) (.c (.int .i64 1))⟩,
      ⟨some 13, none, .mov (.t 23)⟩])))))))
    (.seq (.region [⟨some 24, none, .mov (.t 5)⟩,
      ⟨some 4, none, .mov (.t 24)⟩])
    .ret)))), [.tmp 4]⟩
theorem T_model_each_api_Msg : trFn Tryz.prog [(4, [0, 0, 1, 0]), (5, [0, 0, 0, 0, 1, 0, 0])] Tryz.f221 = some A_model_each_api_Msg := by kernel_rfl
theorem L_model_each_api_Msg : 2 ≤ Tryz.f221.ntmps := by decide

/-! slices.Index[[]int,int] -/
def A_slices_Index_int_int : AFn := ⟨(.seq (.region [⟨some 4, none, .mov (.c (.int .i64 0))⟩])
    (.seq (.seq (.region [⟨some 6, none, .mov (.t 0)⟩,
      ⟨some 7, none, .len false (.t 6)⟩,
      ⟨some 8, none, .mov (.c (.int .i64 0))⟩])
    (.block 0 (.loop (.seq (.region [⟨some 9, none, .bin false .lss (.t 8) (.t 7)⟩])
    (.seq (.cond (.t 9) .skip
    (.exit 0))
    (.seq (.block 1 (.seq (.region [⟨some 10, none, .mov (.t 8)⟩,
      ⟨some 5, none, .mov (.t 10)⟩])
    (.seq (.region [⟨some 11, none, .mov (.t 1)⟩,
      ⟨some 12, none, .mov (.t 0)⟩,
      ⟨some 13, none, .mov (.t 5)⟩,
      ⟨some 14, none, .idxA 1 (.t 12) (.t 13)⟩,
      ⟨some 15, none, .load 1 false (.t 14)⟩,
      ⟨some 16, none, .bin false .eql (.t 11) (.t 15)⟩])
    (.cond (.t 16) (.seq (.region [⟨some 17, none, .mov (.t 5)⟩,
      ⟨some 4, none, .mov (.t 17)⟩])
    .ret)
    .skip))))
    (.region [⟨some 18, none, .bin false .add (.t 8) (.c (.int .i64 1))⟩,
      ⟨some 8, none, .mov (.t 18)⟩])))))))
    (.seq (.region [⟨some 4, none, .mov (.c (.int .i64 (-1)))⟩])
    .ret))), [.tmp 4]⟩
theorem T_slices_Index_int_int : trFn Tryz.prog [] Tryz.f222 = some A_slices_Index_int_int := by kernel_rfl
theorem L_slices_Index_int_int : 2 ≤ Tryz.f222.ntmps := by decide

/-! slices.BinarySearchFunc[[]cartouche/api.Field,cartouche/api.Field,int] -/
def A_slices_BinarySearchFunc_api_Field_api_Field_int : AFn := ⟨(.seq (.region [⟨some 6, none, .mov (.c (.int .i64 0))⟩,
      ⟨some 7, none, .mov (.c (.bool false))⟩])
    (.seq (.region [⟨some 12, none, .mov (.t 0)⟩,
      ⟨some 13, none, .len false (.t 12)⟩,
      ⟨some 8, none, .mov (.t 13)⟩])
    (.seq (.region [⟨some 14, none, .mov (.t 8)⟩,
      ⟨some 9, none, .mov (.c (.int .i64 0))⟩,
      ⟨some 10, none, .mov (.t 14)⟩])
    (.seq (.block 0 (.loop (.seq (.seq (.region [⟨some 15, none, .mov (.t 9)⟩,
      ⟨some 16, none, .mov (.t 10)⟩,
      ⟨some 17, none, .bin false .lss (.t 15) (.t 16)⟩])
    (.cond (.t 17) .skip
    (.exit 0)))
    (.block 1 (.seq (.region [⟨some 18, none, .mov (.t 9)⟩,
      ⟨some 19, none, .mov (.t 10)⟩,
      ⟨some 20, none, .bin false .add (.t 18) (.t 19)⟩,
      ⟨some 21, none, .conv .u64 (.t 20)⟩,
      ⟨some 22, none, .bin false .shr (.t 21) (.c (.int .u64 1))⟩,
      ⟨some 23, none, .conv .i64 (.t 22)⟩,
      ⟨some 11, none, .mov (.t 23)⟩])
    (.seq (.region [⟨some 24, none, .mov (.t 2)⟩,
      ⟨some 25, none, .mov (.t 0)⟩,
      ⟨some 26, none, .mov (.t 11)⟩,
      ⟨some 27, none, .idxA 3 (.t 25) (.t 26)⟩,
      ⟨some 28, none, .load 3 true (.t 27)⟩,
      ⟨some 29, none, .mov (.t 1)⟩,
      ⟨some 30, none, .callv (.t 24) [.t 28, .t 29]⟩,
      ⟨some 31, none, .bin false .lss (.t 30) (.c (.int .i64 0))⟩])
    (.cond (.t 31) (.region [⟨some 32, none, .mov (.t 11)⟩,
      ⟨some 33, none, .bin false .add (.t 32) (.c (.int .i64 1))⟩,
      ⟨some 9, none, .mov (.t 33)⟩])
    (.region [⟨some 34, none, .mov (.t 11)⟩,
      ⟨some 10, none, .mov (.t 34)⟩]))))))))
    (.seq (.region [⟨some 35, none, .mov (.t 9)⟩,
      ⟨some 36, none, .mov (.t 9)⟩,
      ⟨some 37, none, .mov (.t 8)⟩,
      ⟨some 38, none, .bin false .lss (.t 36) (.t 37)⟩,
      ⟨some 39, none, .mov (.t 38)⟩,
      ⟨some 40, some (39, true), .mov (.t 2)⟩,
      ⟨some 41, some (39, true), .mov (.t 0)⟩,
      ⟨some 42, some (39, true), .mov (.t 9)⟩,
      ⟨some 43, some (39, true), .idxA 3 (.t 41) (.t 42)⟩,
      ⟨some 44, some (39, true), .load 3 true (.t 43)⟩,
      ⟨some 45, some (39, true), .mov (.t 1)⟩,
      ⟨some 46, some (39, true), .callv (.t 40) [.t 44, .t 45]⟩,
      ⟨some 47, some (39, true), .bin false .eql (.t 46) (.c (.int .i64 0))⟩,
      ⟨some 48, none, .pickb (.t 39) (.t 47) (.c (.bool false))⟩,
      ⟨some 6, none, .mov (.t 35)⟩,
      ⟨some 7, none, .mov (.t 48)⟩])
    .ret))))), [.tmp 6, .tmp 7]⟩
theorem T_slices_BinarySearchFunc_api_Field_api_Field_int : trFn Tryz.prog [] Tryz.f223 = some A_slices_BinarySearchFunc_api_Field_api_Field_int := by kernel_rfl
theorem L_slices_BinarySearchFunc_api_Field_api_Field_int : 3 ≤ Tryz.f223.ntmps := by decide

/-! cartouche/model.Place$1 -/
def A_model_Place_1 : AFn := ⟨(.seq (.region [⟨some 2, none, .box 0 (.t 0)⟩,
      ⟨some 4, none, .mov (.c (.int .i64 0))⟩])
    (.seq (.region [⟨some 5, none, .fldA 0 1 false (.t 2)⟩,
      ⟨some 6, none, .load 1 false (.t 5)⟩,
      ⟨some 7, none, .mov (.t 1)⟩,
      ⟨some 8, none, .bin false .sub (.t 6) (.t 7)⟩,
      ⟨some 4, none, .mov (.t 8)⟩])
    .ret)), [.tmp 4]⟩
theorem T_model_Place_1 : trFn Tryz.prog [(0, [1, 0])] Tryz.f224 = some A_model_Place_1 := by kernel_rfl
theorem L_model_Place_1 : 2 ≤ Tryz.f224.ntmps := by decide

/-! slices.Insert[[]cartouche/api.Val,cartouche/api.Val] -/
def A_slices_Insert_api_Val_api_Val : AFn := ⟨(.seq (.region [⟨some 6, none, .mov (.c (.nil))⟩])
    (.seq (.region [⟨some 10, none, .mov (.t 0)⟩,
      ⟨some 11, none, .mov (.t 1)⟩,
      ⟨some 12, none, .slcT 0 3 (.t 10) (.t 11)⟩])
    (.seq (.region [⟨some 13, none, .mov (.t 2)⟩,
      ⟨some 14, none, .len false (.t 13)⟩,
      ⟨some 7, none, .mov (.t 14)⟩])
    (.seq (.seq (.region [⟨some 15, none, .mov (.t 7)⟩,
      ⟨some 16, none, .bin false .eql (.t 15) (.c (.int .i64 0))⟩])
    (.cond (.t 16) (.seq (.region [⟨some 17, none, .mov (.t 0)⟩,
      ⟨some 6, none, .mov (.t 17)⟩])
    .ret)
    .skip))
    (.seq (.region [⟨some 18, none, .mov (.t 0)⟩,
      ⟨some 19, none, .len false (.t 18)⟩,
      ⟨some 8, none, .mov (.t 19)⟩])
    (.seq (.seq (.region [⟨some 20, none, .mov (.t 1)⟩,
      ⟨some 21, none, .mov (.t 8)⟩,
      ⟨some 22, none, .bin false .eql (.t 20) (.t 21)⟩])
    (.cond (.t 22) (.seq (.region [⟨some 23, none, .mov (.t 0)⟩,
      ⟨some 24, none, .mov (.t 2)⟩,
      ⟨some 25, none, .app 0 26 3 56 (.t 23) (.t 24)⟩,
      ⟨some 6, none, .mov (.t 25)⟩])
    .ret)
    .skip))
    (.seq (.seq (.region [⟨some 26, none, .mov (.t 8)⟩,
      ⟨some 27, none, .mov (.t 7)⟩,
      ⟨some 28, none, .bin false .add (.t 26) (.t 27)⟩,
      ⟨some 29, none, .mov (.t 0)⟩,
      ⟨some 30, none, .bad⟩,
      ⟨some 31, none, .bin false .gtr (.t 28) (.t 30)⟩])
    (.cond (.t 31) (.seq (.region [⟨some 32, none, .mov (.t 0)⟩,
      ⟨some 33, none, .mov (.t 1)⟩,
      ⟨some 34, none, .slcH 3 (.t 32) (.t 33)⟩,
      ⟨some 35, none, .mov (.t 8)⟩,
      ⟨some 36, none, .mov (.t 7)⟩,
      ⟨some 37, none, .bin false .add (.t 35) (.t 36)⟩,
      ⟨some 38, none, .mov (.t 1)⟩,
      ⟨some 39, none, .bin false .sub (.t 37) (.t 38)⟩,
      ⟨some 40, none, .bad⟩,
      ⟨some 9, none, .mov (.t 40)⟩])
    (.seq (.region [⟨some 41, none, .mov (.t 9)⟩,
      ⟨some 42, none, .mov (.t 1)⟩,
      ⟨some 43, none, .slcT 0 3 (.t 41) (.t 42)⟩,
      ⟨some 44, none, .mov (.t 2)⟩,
      ⟨some 45, none, .bad⟩])
    (.seq (.draw [4, 8] [⟨some 46, none, .mov (.t 9)⟩,
      ⟨some 47, none, .mov (.t 1)⟩,
      ⟨some 48, none, .mov (.t 7)⟩,
      ⟨some 49, none, .bin false .add (.t 47) (.t 48)⟩,
      ⟨some 50, none, .slcT 0 3 (.t 46) (.t 49)⟩,
      ⟨some 51, none, .mov (.t 0)⟩,
      ⟨some 52, none, .mov (.t 1)⟩,
      ⟨some 53, none, .slcT 0 3 (.t 51) (.t 52)⟩,
      ⟨some 54, none, .bad⟩])
    (.seq (.region [⟨some 55, none, .mov (.t 9)⟩,
      ⟨some 6, none, .mov (.t 55)⟩])
    .ret))))
    .skip))
    (.seq (.region [⟨some 56, none, .mov (.t 0)⟩,
      ⟨some 57, none, .mov (.t 8)⟩,
      ⟨some 58, none, .mov (.t 7)⟩,
      ⟨some 59, none, .bin false .add (.t 57) (.t 58)⟩,
      ⟨some 60, none, .slcH 3 (.t 56) (.t 59)⟩,
      ⟨some 0, none, .mov (.t 60)⟩])
    (.seq (.seq (.region [⟨some 61, none, .mov (.t 2)⟩,
      ⟨some 62, none, .mov (.t 0)⟩,
      ⟨some 63, none, .mov (.t 1)⟩,
      ⟨some 64, none, .mov (.t 7)⟩,
      ⟨some 65, none, .bin false .add (.t 63) (.t 64)⟩,
      ⟨some 66, none, .slcT 0 3 (.t 62) (.t 65)⟩,
      ⟨some 67, none, .bad⟩,
      ⟨some 68, none, .un .not (.t 67)⟩])
    (.cond (.t 68) (.seq (.draw [4, 8] [⟨some 69, none, .mov (.t 0)⟩,
      ⟨some 70, none, .mov (.t 1)⟩,
      ⟨some 71, none, .mov (.t 7)⟩,
      ⟨some 72, none, .bin false .add (.t 70) (.t 71)⟩,
      ⟨some 73, none, .slcT 0 3 (.t 69) (.t 72)⟩,
      ⟨some 74, none, .mov (.t 0)⟩,
      ⟨some 75, none, .mov (.t 1)⟩,
      ⟨some 76, none, .slcT 0 3 (.t 74) (.t 75)⟩,
      ⟨some 77, none, .bad⟩])
    (.seq (.region [⟨some 78, none, .mov (.t 0)⟩,
      ⟨some 79, none, .mov (.t 1)⟩,
      ⟨some 80, none, .slcT 0 3 (.t 78) (.t 79)⟩,
      ⟨some 81, none, .mov (.t 2)⟩,
      ⟨some 82, none, .bad⟩])
    (.seq (.region [⟨some 83, none, .mov (.t 0)⟩,
      ⟨some 6, none, .mov (.t 83)⟩])
    .ret)))
    .skip))
    (.seq (.region [⟨some 84, none, .mov (.t 0)⟩,
      ⟨some 85, none, .mov (.t 8)⟩,
      ⟨some 86, none, .slcT 0 3 (.t 84) (.t 85)⟩,
      ⟨some 87, none, .mov (.t 2)⟩,
      ⟨some 88, none, .bad⟩])
    (.seq (.region [⟨some 89, none, .mov (.t 0)⟩,
      ⟨some 90, none, .mov (.t 1)⟩,
      ⟨some 91, none, .slcT 0 3 (.t 89) (.t 90)⟩,
      ⟨some 92, none, .mov (.t 7)⟩,
      ⟨some 93, none, .call i_slices_rotateRight_api_Val [.t 91, .t 92]⟩])
    (.seq (.region [⟨some 94, none, .mov (.t 0)⟩,
      ⟨some 6, none, .mov (.t 94)⟩])
    .ret)))))))))))), [.tmp 6]⟩
theorem T_slices_Insert_api_Val_api_Val : trFn Tryz.prog [(1, [0, 0, 1000]), (9, [0, 0, 901, 0, 0, 0, 0, 0, 0, 0]), (10, [0, 0, 1000, 0, 0]), (11, [0, 0, 0, 0, 1000, 0, 0, 1000, 0]), (13, [0, 0, 0, 0, 901, 0]), (14, [0, 0, 0, 0, 0, 1000, 0, 0]), (15, [0, 0, 0, 0, 1000, 0, 0, 1000, 0]), (16, [0, 0, 1000, 0, 0]), (18, [0, 0, 1000, 0, 0]), (19, [0, 0, 1000, 0, 0]), (1000011, [4, 8]), (1000015, [4, 8])] Tryz.f227 = some A_slices_Insert_api_Val_api_Val := by kernel_rfl
theorem L_slices_Insert_api_Val_api_Val : 3 ≤ Tryz.f227.ntmps := by decide

/-! cartouche/scalar.Put -/
def A_scalar_Put : AFn := ⟨(.seq (.region [⟨some 3, none, .box 0 (.t 1)⟩,
      ⟨some 4, none, .mov (.c (.nil))⟩,
      ⟨some 5, none, .mov (.c (.int .i64 0))⟩])
    (.seq (.seq (.region [⟨some 9, none, .mov (.t 0)⟩,
      ⟨some 10, none, .load 3 true (.t 3)⟩,
      ⟨some 11, none, .call i_scalar_may [.t 9, .t 10]⟩,
      ⟨some 6, none, .mov (.t 11)⟩])
    (.seq (.region [⟨some 12, none, .mov (.t 6)⟩,
      ⟨some 13, none, .bin false .neq (.t 12) (.c (.int .i64 0))⟩])
    (.cond (.t 13) (.seq (.region [⟨some 14, none, .mov (.t 6)⟩,
      ⟨some 4, none, .mov (.c (.nil))⟩,
      ⟨some 5, none, .mov (.t 14)⟩])
    .ret)
    .skip)))
    (.seq (.region [⟨some 16, none, .mov (.t 0)⟩,
      ⟨some 17, none, .call i_scalar_Wire [.t 16]⟩,
      ⟨some 15, none, .mov (.t 17)⟩,
      ⟨some 18, none, .ext 0 (.t 15)⟩,
      ⟨some 19, none, .ext 1 (.t 15)⟩,
      ⟨some 7, none, .mov (.t 18)⟩,
      ⟨some 8, none, .mov (.t 19)⟩])
    (.seq (.block 0 (.seq (.region [⟨some 21, none, .mov (.t 7)⟩,
      ⟨some 22, none, .bin false .eql (.t 21) (.c (.int .i64 2))⟩,
      ⟨some 20, none, .mov (.t 22)⟩])
    (.cond (.t 20) (.seq (.region [⟨some 23, none, .fldA 1 1 false (.t 3)⟩,
      ⟨some 24, none, .load 1 false (.t 23)⟩,
      ⟨some 25, none, .call i_wire_PutChunk [.t 24]⟩,
      ⟨some 4, none, .mov (.t 25)⟩,
      ⟨some 5, none, .mov (.c (.int .i64 0))⟩])
    .ret)
    (.seq (.region [⟨some 27, none, .mov (.t 7)⟩,
      ⟨some 28, none, .bin false .eql (.t 27) (.c (.int .i64 5))⟩,
      ⟨some 26, none, .mov (.t 28)⟩])
    (.cond (.t 26) (.seq (.region [⟨some 29, none, .fldA 0 1 false (.t 3)⟩,
      ⟨some 30, none, .load 1 false (.t 29)⟩,
      ⟨some 31, none, .conv .u32 (.t 30)⟩,
      ⟨some 32, none, .call i_wire_PutFix32 [.t 31]⟩,
      ⟨some 4, none, .mov (.t 32)⟩,
      ⟨some 5, none, .mov (.c (.int .i64 0))⟩])
    .ret)
    (.seq (.region [⟨some 34, none, .mov (.t 7)⟩,
      ⟨some 35, none, .bin false .eql (.t 34) (.c (.int .i64 1))⟩,
      ⟨some 33, none, .mov (.t 35)⟩])
    (.cond (.t 33) (.seq (.region [⟨some 36, none, .fldA 0 1 false (.t 3)⟩,
      ⟨some 37, none, .load 1 false (.t 36)⟩,
      ⟨some 38, none, .call i_wire_PutFix64 [.t 37]⟩,
      ⟨some 4, none, .mov (.t 38)⟩,
      ⟨some 5, none, .mov (.c (.int .i64 0))⟩])
    .ret)
    (.seq (.region [⟨some 40, none, .mov (.t 0)⟩,
      ⟨some 41, none, .bin false .eql (.t 40) (.c (.int .i64 6))⟩,
      ⟨some 42, none, .mov (.t 41)⟩,
      ⟨some 43, some (42, false), .mov (.t 0)⟩,
      ⟨some 44, some (42, false), .bin false .eql (.t 43) (.c (.int .i64 7))⟩,
      ⟨some 45, none, .pickb (.t 42) (.c (.bool true)) (.t 44)⟩,
      ⟨some 39, none, .mov (.t 45)⟩])
    (.cond (.t 39) (.seq (.region [⟨some 46, none, .fldA 0 1 false (.t 3)⟩,
      ⟨some 47, none, .load 1 false (.t 46)⟩,
      ⟨some 48, none, .conv .i64 (.t 47)⟩,
      ⟨some 49, none, .call i_wire_ZigZag [.t 48]⟩,
      ⟨some 50, none, .call i_wire_PutVarint [.t 49]⟩,
      ⟨some 4, none, .mov (.t 50)⟩,
      ⟨some 5, none, .mov (.c (.int .i64 0))⟩])
    .ret)
    .skip)))))))))
    (.seq (.region [⟨some 51, none, .fldA 0 1 false (.t 3)⟩,
      ⟨some 52, none, .load 1 false (.t 51)⟩,
      ⟨some 53, none, .call i_wire_PutVarint [.t 52]⟩,
      ⟨some 4, none, .mov (.t 53)⟩,
      ⟨some 5, none, .mov (.c (.int .i64 0))⟩])
    .ret))))), [.tmp 4, .tmp 5]⟩
theorem T_scalar_Put : trFn Tryz.prog [(0, [1, 0, 0])] Tryz.f232 = some A_scalar_Put := by kernel_rfl
theorem L_scalar_Put : 2 ≤ Tryz.f232.ntmps := by decide

/-! cartouche/interp.must -/
def A_interp_must : AFn := ⟨(.seq (.region [⟨some 2, none, .mov (.t 0)⟩,
      ⟨some 3, none, .bin false .neq (.t 2) (.c (.int .i64 0))⟩])
    (.cond (.t 3) (.region [⟨some 4, none, .mov (.t 0)⟩,
      ⟨some 5, none, .bad⟩,
      ⟨none, none, .bad⟩])
    .skip)), []⟩
theorem T_interp_must : trFn Tryz.prog [] Tryz.f233 = some A_interp_must := by kernel_rfl
theorem L_interp_must : 1 ≤ Tryz.f233.ntmps := by decide

/-! (*cartouche/interp.cursor).within -/
def A_interp_cursor_within : AFn := ⟨(.seq (.region [⟨some 6, none, .box 0 (.t 1)⟩,
      ⟨some 9, none, .box 0 (.t 4)⟩,
      ⟨some 10, none, .alloc 0 [.int .u64 0, .nil, .nil]⟩])
    (.seq (.region [⟨some 12, none, .mov (.t 0)⟩,
      ⟨some 13, none, .call i_interp_cursor_chunk [.t 12]⟩,
      ⟨some 11, none, .mov (.t 13)⟩])
    (.seq (.seq (.region [⟨some 14, none, .mov (.t 3)⟩,
      ⟨some 15, none, .bin false .eql (.t 14) (.c (.int .i64 16))⟩])
    (.cond (.t 15) (.region [⟨some 16, none, .call i_interp_must [.c (.int .i64 2)]⟩])
    .skip))
    (.seq (.region [⟨some 17, none, .mov (.t 11)⟩,
      ⟨some 18, none, .load 1 true (.t 6)⟩,
      ⟨some 19, none, .mov (.t 2)⟩,
      ⟨some 20, none, .mov (.t 3)⟩,
      ⟨some 21, none, .bin false .add (.t 20) (.c (.int .i64 1))⟩,
      ⟨some 22, none, .load 2 true (.t 9)⟩,
      ⟨some 23, none, .call i_interp_cursor_message [.t 17, .t 18, .t 19, .t 21, .t 22]⟩,
      ⟨some 24, none, .blit 0 35 2 [.t 23]⟩,
      ⟨some 25, none, .build [.int .u64 0, .nil, .nil] [(2, 1, .t 24)]⟩,
      ⟨none, none, .store 3 (.t 10) (.t 25)⟩])
    .ret)))), [.cell 10 3 true]⟩
theorem T_interp_cursor_within : trFn Tryz.prog [(0, [1, 1, 1]), (4, [0, 0, 0, 0, 0, 0, 0, 1, 0, 0])] Tryz.f234 = some A_interp_cursor_within := by kernel_rfl
theorem L_interp_cursor_within : 5 ≤ Tryz.f234.ntmps := by decide

/-! (*cartouche/interp.cursor).scalar -/
def A_interp_cursor_scalar : AFn := ⟨(.seq (.region [⟨some 5, none, .box 0 (.t 1)⟩,
      ⟨some 8, none, .alloc 0 [.int .u64 0, .nil, .nil]⟩])
    (.seq (.draw [14, 15, 1000004, 1000008, 2000015] [⟨some 15, none, .mov (.t 2)⟩,
      ⟨some 16, none, .mov (.t 0)⟩,
      ⟨some 17, none, .nilck (.t 16)⟩,
      ⟨some 18, none, .fldA 0 1 false (.t 17)⟩,
      ⟨some 19, none, .load 1 false (.t 18)⟩,
      ⟨some 20, none, .mov (.t 0)⟩,
      ⟨some 21, none, .nilck (.t 20)⟩,
      ⟨some 22, none, .fldA 1 1 false (.t 21)⟩,
      ⟨some 23, none, .load 1 false (.t 22)⟩,
      ⟨some 24, none, .call i_scalar_Get [.t 15, .t 19, .t 23]⟩,
      ⟨some 14, none, .mov (.t 24)⟩,
      ⟨some 25, none, .ext 0 (.t 14)⟩,
      ⟨some 26, none, .ext 1 (.t 14)⟩,
      ⟨some 27, none, .ext 2 (.t 14)⟩,
      ⟨some 9, none, .alloc 0 [.int .u64 0, .nil, .nil]⟩,
      ⟨none, none, .store 3 (.t 9) (.t 25)⟩,
      ⟨some 10, none, .mov (.t 26)⟩,
      ⟨some 11, none, .mov (.t 27)⟩])
    (.seq (.region [⟨some 28, none, .mov (.t 11)⟩,
      ⟨some 29, none, .call i_interp_must [.t 28]⟩])
    (.seq (.region [⟨some 30, none, .mov (.t 0)⟩,
      ⟨some 31, none, .mov (.t 10)⟩,
      ⟨some 32, none, .nilck (.t 30)⟩,
      ⟨some 33, none, .fldA 1 1 false (.t 32)⟩,
      ⟨none, none, .store 1 (.t 33) (.t 31)⟩])
    (.seq (.seq (.region [⟨some 34, none, .mov (.t 2)⟩,
      ⟨some 35, none, .bin false .eql (.t 34) (.c (.int .i64 16))⟩])
    (.cond (.t 35) (.seq (.draw [1, 3, 4, 8, 1000006, 2000008] [⟨some 37, none, .fldA 0 1 false (.t 5)⟩,
      ⟨some 38, none, .load 1 false (.t 37)⟩,
      ⟨some 39, none, .mov (.t 3)⟩,
      ⟨some 40, none, .idxA 6 (.t 38) (.t 39)⟩,
      ⟨some 41, none, .load 6 true (.t 40)⟩,
      ⟨some 42, none, .fldA 0 1 false (.t 9)⟩,
      ⟨some 43, none, .load 1 false (.t 42)⟩,
      ⟨some 44, none, .conv .i64 (.t 43)⟩,
      ⟨some 45, none, .call i_table_SymbolAt [.t 41, .t 44]⟩,
      ⟨some 36, none, .mov (.t 45)⟩,
      ⟨some 46, none, .ext 0 (.t 36)⟩,
      ⟨some 47, none, .ext 1 (.t 36)⟩,
      ⟨some 12, none, .mov (.t 46)⟩,
      ⟨some 13, none, .mov (.t 47)⟩])
    (.seq (.region [⟨some 48, none, .mov (.t 13)⟩,
      ⟨some 49, none, .un .not (.t 48)⟩])
    (.cond (.t 49) (.region [⟨some 50, none, .call i_interp_must [.c (.int .i64 9)]⟩])
    .skip)))
    .skip))
    (.seq (.region [⟨some 51, none, .load 3 true (.t 9)⟩,
      ⟨none, none, .store 3 (.t 8) (.t 51)⟩])
    .ret)))))), [.cell 8 3 true]⟩
theorem T_interp_cursor_scalar : trFn Tryz.prog [(0, [1, 1]), (1, [0, 0, 0, 0, 0, 0, 0, 0, 0, 0, 0, 0, 0, 0, 1, 0, 0, 0]), (1000001, [14, 15, 1000004, 1000008, 2000015]), (1000005, [1, 3, 4, 8, 1000006, 2000008])] Tryz.f235 = some A_interp_cursor_scalar := by kernel_rfl
theorem L_interp_cursor_scalar : 4 ≤ Tryz.f235.ntmps := by decide

/-! cartouche/interp.field -/
def A_interp_field : AFn := ⟨(.seq (.region [⟨some 4, none, .mov (.c (.nilp))⟩])
    (.seq (.region [⟨some 8, none, .mov (.t 0)⟩,
      ⟨some 9, none, .nilck (.t 8)⟩,
      ⟨some 10, none, .fldA 0 1 false (.t 9)⟩,
      ⟨some 11, none, .load 1 false (.t 10)⟩,
      ⟨some 12, none, .mov (.t 1)⟩,
      ⟨some 13, none, .call i_model_Place [.t 11, .t 12]⟩,
      ⟨some 7, none, .mov (.t 13)⟩,
      ⟨some 14, none, .ext 0 (.t 7)⟩,
      ⟨some 15, none, .ext 1 (.t 7)⟩,
      ⟨some 5, none, .mov (.t 14)⟩,
      ⟨some 6, none, .mov (.t 15)⟩])
    (.seq (.seq (.region [⟨some 16, none, .mov (.t 6)⟩,
      ⟨some 17, none, .un .not (.t 16)⟩])
    (.cond (.t 17) (.region [⟨some 18, none, .mov (.t 0)⟩,
      ⟨some 19, none, .mov (.t 0)⟩,
      ⟨some 20, none, .nilck (.t 19)⟩,
      ⟨some 21, none, .fldA 0 1 false (.t 20)⟩,
      ⟨some 22, none, .load 1 false (.t 21)⟩,
      ⟨some 23, none, .mov (.t 5)⟩,
      ⟨some 24, none, .mov (.t 1)⟩,
      ⟨some 25, none, .build [.int .i64 0, .nil, .nil] [(0, 1, .t 24)]⟩,
      ⟨some 26, none, .blit 0 29 3 [.t 25]⟩,
      ⟨some 27, none, .call i_slices_Insert_api_Field_api_Field [.t 22, .t 23, .t 26]⟩,
      ⟨some 28, none, .nilck (.t 18)⟩,
      ⟨some 29, none, .fldA 0 1 false (.t 28)⟩,
      ⟨none, none, .store 1 (.t 29) (.t 27)⟩])
    .skip))
    (.seq (.region [⟨some 30, none, .mov (.t 0)⟩,
      ⟨some 31, none, .nilck (.t 30)⟩,
      ⟨some 32, none, .fldA 0 1 false (.t 31)⟩,
      ⟨some 33, none, .load 1 false (.t 32)⟩,
      ⟨some 34, none, .mov (.t 5)⟩,
      ⟨some 35, none, .idxA 3 (.t 33) (.t 34)⟩,
      ⟨some 4, none, .mov (.t 35)⟩])
    .ret)))), [.tmp 4]⟩
theorem T_interp_field : trFn Tryz.prog [(3, [0, 0, 0, 0, 0, 0, 0, 0, 1, 0, 0, 0, 0])] Tryz.f236 = some A_interp_field := by kernel_rfl
theorem L_interp_field : 2 ≤ Tryz.f236.ntmps := by decide

/-! (*cartouche/interp.cursor).value -/
def A_interp_cursor_value : AFn := ⟨(.seq (.region [⟨some 6, none, .box 0 (.t 1)⟩,
      ⟨some 10, none, .alloc 0 [.int .u64 0, .nil, .nil]⟩])
    (.seq (.seq (.region [⟨some 11, none, .mov (.t 2)⟩,
      ⟨some 12, none, .bin false .eql (.t 11) (.c (.int .i64 17))⟩])
    (.cond (.t 12) (.seq (.region [⟨some 13, none, .mov (.t 0)⟩,
      ⟨some 14, none, .load 1 true (.t 6)⟩,
      ⟨some 15, none, .mov (.t 3)⟩,
      ⟨some 16, none, .mov (.t 4)⟩,
      ⟨some 17, none, .build [.nil, .nil] []⟩,
      ⟨some 18, none, .call i_interp_cursor_within [.t 13, .t 14, .t 15, .t 16, .t 17]⟩,
      ⟨none, none, .store 3 (.t 10) (.t 18)⟩])
    .ret)
    .skip))
    (.seq (.region [⟨some 19, none, .mov (.t 0)⟩,
      ⟨some 20, none, .load 1 true (.t 6)⟩,
      ⟨some 21, none, .mov (.t 2)⟩,
      ⟨some 22, none, .mov (.t 3)⟩,
      ⟨some 23, none, .call i_interp_cursor_scalar [.t 19, .t 20, .t 21, .t 22]⟩,
      ⟨none, none, .store 3 (.t 10) (.t 23)⟩])
    .ret))), [.cell 10 3 true]⟩
theorem T_interp_cursor_value : trFn Tryz.prog [(0, [1, 1])] Tryz.f237 = some A_interp_cursor_value := by kernel_rfl
theorem L_interp_cursor_value : 5 ≤ Tryz.f237.ntmps := by decide

/-! (*cartouche/interp.cursor).put$1 -/
def A_interp_cursor_put_1 : AFn := ⟨(.seq (.region [⟨some 2, none, .box 0 (.t 0)⟩,
      ⟨some 3, none, .mov (.c (.bool false))⟩])
    (.seq (.region [⟨some 4, none, .load 1 false (.t 1)⟩,
      ⟨some 5, none, .fldA 0 1 false (.t 2)⟩,
      ⟨some 6, none, .load 1 false (.t 5)⟩,
      ⟨some 7, none, .call i_slices_Contains_int_int [.t 4, .t 6]⟩,
      ⟨some 3, none, .mov (.t 7)⟩])
    .ret)), [.tmp 3]⟩
theorem T_interp_cursor_put_1 : trFn Tryz.prog [(0, [1, 0])] Tryz.f238 = some A_interp_cursor_put_1 := by kernel_rfl
theorem L_interp_cursor_put_1 : 2 ≤ Tryz.f238.ntmps := by decide

/-! (*cartouche/interp.cursor).pair -/
def A_interp_cursor_pair : AFn := ⟨(.seq (.region [⟨some 5, none, .box 0 (.t 1)⟩,
      ⟨some 6, none, .box 0 (.t 2)⟩,
      ⟨some 8, none, .alloc 0 [.int .u64 0, .nil, .nil]⟩,
      ⟨some 9, none, .alloc 0 [.int .u64 0, .nil, .nil]⟩])
    (.seq (.region [⟨some 18, none, .mov (.t 0)⟩,
      ⟨some 19, none, .call i_interp_cursor_chunk [.t 18]⟩,
      ⟨some 10, none, .mov (.t 19)⟩])
    (.seq (.region [⟨some 20, none, .fldA 2 1 false (.t 6)⟩,
      ⟨some 21, none, .load 1 false (.t 20)⟩,
      ⟨some 22, none, .call i_interp_Default [.t 21]⟩,
      ⟨none, none, .store 3 (.t 9) (.t 22)⟩])
    (.seq (.region [⟨some 24, none, .fldA 6 1 false (.t 6)⟩,
      ⟨some 25, none, .load 1 false (.t 24)⟩,
      ⟨some 26, none, .call i_scalar_Wire [.t 25]⟩,
      ⟨some 23, none, .mov (.t 26)⟩,
      ⟨some 27, none, .ext 0 (.t 23)⟩,
      ⟨some 28, none, .ext 1 (.t 23)⟩,
      ⟨some 11, none, .mov (.t 27)⟩,
      ⟨some 12, none, .mov (.t 28)⟩])
    (.seq (.region [⟨some 30, none, .fldA 2 1 false (.t 6)⟩,
      ⟨some 31, none, .load 1 false (.t 30)⟩,
      ⟨some 32, none, .call i_scalar_Wire [.t 31]⟩,
      ⟨some 29, none, .mov (.t 32)⟩,
      ⟨some 33, none, .ext 0 (.t 29)⟩,
      ⟨some 34, none, .ext 1 (.t 29)⟩,
      ⟨some 13, none, .mov (.t 33)⟩,
      ⟨some 14, none, .mov (.t 34)⟩])
    (.seq (.region [⟨some 35, none, .fldA 2 1 false (.t 6)⟩,
      ⟨some 36, none, .load 1 false (.t 35)⟩,
      ⟨some 37, none, .bin false .eql (.t 36) (.c (.int .i64 17))⟩,
      ⟨some 15, none, .mov (.t 37)⟩])
    (.seq (.block 0 (.loop (.seq (.seq (.region [⟨some 38, none, .mov (.t 10)⟩,
      ⟨some 39, none, .call i_interp_cursor_done [.t 38]⟩,
      ⟨some 40, none, .un .not (.t 39)⟩])
    (.cond (.t 40) .skip
    (.exit 0)))
    (.block 1 (.seq (.region [⟨some 42, none, .mov (.t 10)⟩,
      ⟨some 43, none, .call i_interp_cursor_tag [.t 42]⟩,
      ⟨some 41, none, .mov (.t 43)⟩,
      ⟨some 44, none, .ext 0 (.t 41)⟩,
      ⟨some 45, none, .ext 1 (.t 41)⟩,
      ⟨some 16, none, .mov (.t 44)⟩,
      ⟨some 17, none, .mov (.t 45)⟩])
    (.block 2 (.seq (.region [⟨some 51, none, .mov (.t 16)⟩,
      ⟨some 52, none, .bin false .eql (.t 51) (.c (.int .i64 1))⟩,
      ⟨some 53, none, .mov (.t 52)⟩,
      ⟨some 54, some (53, true), .mov (.t 17)⟩,
      ⟨some 55, some (53, true), .mov (.t 11)⟩,
      ⟨some 56, some (53, true), .bin false .eql (.t 54) (.t 55)⟩,
      ⟨some 57, none, .pickb (.t 53) (.t 56) (.c (.bool false))⟩,
      ⟨some 50, none, .mov (.t 57)⟩])
    (.cond (.t 50) (.region [⟨some 58, none, .mov (.t 10)⟩,
      ⟨some 59, none, .load 1 true (.t 5)⟩,
      ⟨some 60, none, .fldA 6 1 false (.t 6)⟩,
      ⟨some 61, none, .load 1 false (.t 60)⟩,
      ⟨some 62, none, .call i_interp_cursor_scalar [.t 58, .t 59, .t 61, .c (.int .i64 0)]⟩,
      ⟨none, none, .store 3 (.t 8) (.t 62)⟩])
    (.seq (.region [⟨some 64, none, .mov (.t 16)⟩,
      ⟨some 65, none, .bin false .eql (.t 64) (.c (.int .i64 2))⟩,
      ⟨some 66, none, .mov (.t 65)⟩,
      ⟨some 67, some (66, true), .mov (.t 17)⟩,
      ⟨some 68, some (66, true), .mov (.t 13)⟩,
      ⟨some 69, some (66, true), .bin false .eql (.t 67) (.t 68)⟩,
      ⟨some 70, none, .pickb (.t 66) (.t 69) (.c (.bool false))⟩,
      ⟨some 63, none, .mov (.t 70)⟩])
    (.cond (.t 63) (.region [⟨some 71, none, .mov (.t 10)⟩,
      ⟨some 72, none, .load 1 true (.t 5)⟩,
      ⟨some 73, none, .fldA 2 1 false (.t 6)⟩,
      ⟨some 74, none, .load 1 false (.t 73)⟩,
      ⟨some 75, none, .fldA 3 1 false (.t 6)⟩,
      ⟨some 76, none, .load 1 false (.t 75)⟩,
      ⟨some 77, none, .mov (.t 3)⟩,
      ⟨some 78, none, .call i_interp_cursor_value [.t 71, .t 72, .t 74, .t 76, .t 77]⟩,
      ⟨none, none, .store 3 (.t 9) (.t 78)⟩,
      ⟨some 15, none, .mov (.c (.bool false))⟩])
    (.region [⟨some 46, none, .mov (.t 10)⟩,
      ⟨some 47, none, .mov (.t 16)⟩,
      ⟨some 48, none, .mov (.t 17)⟩,
      ⟨some 49, none, .call i_interp_cursor_rest [.t 46, .t 47, .t 48]⟩])))))))))))
    (.seq (.seq (.region [⟨some 79, none, .mov (.t 15)⟩,
      ⟨some 80, none, .mov (.t 79)⟩,
      ⟨some 81, some (80, true), .mov (.t 3)⟩,
      ⟨some 82, some (80, true), .bin false .eql (.t 81) (.c (.int .i64 16))⟩,
      ⟨some 83, none, .pickb (.t 80) (.t 82) (.c (.bool false))⟩])
    (.cond (.t 83) (.region [⟨some 84, none, .call i_interp_must [.c (.int .i64 2)]⟩])
    .skip))
    (.seq (.draw [0, 2, 3, 1000001, 2000003] [⟨some 85, none, .load 3 true (.t 8)⟩,
      ⟨some 86, none, .load 3 true (.t 9)⟩,
      ⟨none, none, .store 3 (.t 8) (.t 85)⟩,
      ⟨none, none, .store 3 (.t 9) (.t 86)⟩])
    .ret))))))))), [.cell 8 3 true, .cell 9 3 true]⟩
theorem T_interp_cursor_pair : trFn Tryz.prog [(0, [1, 1, 1, 1]), (1000015, [0, 2, 3, 1000001, 2000003])] Tryz.f239 = some A_interp_cursor_pair := by kernel_rfl
theorem L_interp_cursor_pair : 4 ≤ Tryz.f239.ntmps := by decide

end Go.Proofs.YtdlgenppdgkacaaGreatDoor.Ag
