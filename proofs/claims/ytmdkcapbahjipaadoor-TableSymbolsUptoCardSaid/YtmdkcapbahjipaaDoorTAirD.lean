/- Functions printed anew. -/
import Derived.Test.YtmdkcapbahjipaaDoorTAirA
set_option maxRecDepth 100000
namespace Go.Proofs.YtmdkcapbahjipaaDoor.Ag
/-! cartouche/table.Depths$1 -/
def A_table_Depths_1_d : AFn := ⟨(.seq (.region [⟨some 5, none, .mov (.c (.int .i64 0))⟩])
    (.seq (.seq (.region [⟨some 10, none, .mov (.t 0)⟩,
      ⟨some 11, none, .arrA 128 1 (.t 1) (.t 10)⟩,
      ⟨some 12, none, .load 1 false (.t 11)⟩,
      ⟨some 13, none, .bin false .eql (.t 12) (.c (.int .i64 (-1)))⟩])
    (.cond (.t 13) (.region [⟨some 14, none, .mov (.t 0)⟩,
      ⟨some 15, none, .arrA 128 1 (.t 1) (.t 14)⟩,
      ⟨none, none, .store 1 (.t 15) (.c (.int .i64 (-2)))⟩])
    .skip))
    (.seq (.seq (.region [⟨some 16, none, .mov (.t 0)⟩,
      ⟨some 17, none, .arrA 128 1 (.t 1) (.t 16)⟩,
      ⟨some 18, none, .load 1 false (.t 17)⟩,
      ⟨some 19, none, .bin false .neq (.t 18) (.c (.int .i64 0))⟩])
    (.cond (.t 19) (.seq (.region [⟨some 20, none, .mov (.t 0)⟩,
      ⟨some 21, none, .arrA 128 1 (.t 1) (.t 20)⟩,
      ⟨some 22, none, .load 1 false (.t 21)⟩,
      ⟨some 5, none, .mov (.t 22)⟩])
    .ret)
    .skip))
    (.seq (.region [⟨some 23, none, .mov (.t 0)⟩,
      ⟨some 24, none, .arrA 128 1 (.t 1) (.t 23)⟩,
      ⟨none, none, .store 1 (.t 24) (.c (.int .i64 (-1)))⟩])
    (.seq (.region [⟨some 6, none, .mov (.c (.int .i64 0))⟩])
    (.seq (.seq (.region [⟨some 25, none, .fldA 0 1 false (.t 2)⟩,
      ⟨some 26, none, .load 1 false (.t 25)⟩,
      ⟨some 27, none, .mov (.t 0)⟩,
      ⟨some 28, none, .idxA 6 (.t 26) (.t 27)⟩,
      ⟨some 29, none, .fldA 2 1 false (.t 28)⟩,
      ⟨some 30, none, .load 1 false (.t 29)⟩,
      ⟨some 31, none, .len false (.t 30)⟩,
      ⟨some 32, none, .mov (.c (.int .i64 0))⟩])
    (.block 0 (.loop (.seq (.region [⟨some 33, none, .bin false .lss (.t 32) (.t 31)⟩])
    (.seq (.cond (.t 33) .skip
    (.exit 0))
    (.seq (.block 1 (.seq (.region [⟨some 34, none, .mov (.t 32)⟩,
      ⟨some 7, none, .mov (.t 34)⟩])
    (.seq (.region [⟨some 35, none, .fldA 0 1 false (.t 2)⟩,
      ⟨some 36, none, .load 1 false (.t 35)⟩,
      ⟨some 37, none, .mov (.t 0)⟩,
      ⟨some 38, none, .idxA 6 (.t 36) (.t 37)⟩,
      ⟨some 39, none, .fldA 2 1 false (.t 38)⟩,
      ⟨some 40, none, .load 1 false (.t 39)⟩,
      ⟨some 41, none, .mov (.t 7)⟩,
      ⟨some 42, none, .idxA 7 (.t 40) (.t 41)⟩,
      ⟨some 43, none, .load 7 true (.t 42)⟩,
      ⟨some 8, none, .alloc 80 [.str ⟨#[]⟩, .int .i64 0, .int .i64 0, .int .i64 0, .int .i64 0, .int .i64 0, .int .i64 0]⟩,
      ⟨none, none, .store 7 (.t 8) (.t 43)⟩])
    (.seq (.seq (.region [⟨some 44, none, .fldA 2 1 false (.t 8)⟩,
      ⟨some 45, none, .load 1 false (.t 44)⟩,
      ⟨some 46, none, .bin false .neq (.t 45) (.c (.int .i64 17))⟩])
    (.cond (.t 46) (.exit 1)
    .skip))
    (.seq (.region [⟨some 47, none, .load 1 false (.t 3)⟩,
      ⟨some 48, none, .fldA 3 1 false (.t 8)⟩,
      ⟨some 49, none, .load 1 false (.t 48)⟩,
      ⟨some 50, none, .callv (.t 47) [.t 49]⟩,
      ⟨some 9, none, .mov (.t 50)⟩])
    (.seq (.seq (.region [⟨some 51, none, .mov (.t 9)⟩,
      ⟨some 52, none, .bin false .eql (.t 51) (.c (.int .i64 (-2)))⟩])
    (.cond (.t 52) (.seq (.region [⟨some 53, none, .mov (.t 0)⟩,
      ⟨some 54, none, .arrA 128 1 (.t 1) (.t 53)⟩,
      ⟨none, none, .store 1 (.t 54) (.c (.int .i64 (-2)))⟩])
    (.seq (.region [⟨some 5, none, .mov (.c (.int .i64 (-2)))⟩])
    .ret))
    .skip))
    (.region [⟨some 55, none, .mov (.t 6)⟩,
      ⟨some 56, none, .mov (.t 9)⟩,
      ⟨some 57, none, .mm true (.t 55) (.t 56)⟩,
      ⟨some 6, none, .mov (.t 57)⟩])))))))
    (.region [⟨some 58, none, .bin false .add (.t 32) (.c (.int .i64 1))⟩,
      ⟨some 32, none, .mov (.t 58)⟩])))))))
    (.seq (.seq (.region [⟨some 59, none, .mov (.t 0)⟩,
      ⟨some 60, none, .arrA 128 1 (.t 1) (.t 59)⟩,
      ⟨some 61, none, .load 1 false (.t 60)⟩,
      ⟨some 62, none, .bin false .neq (.t 61) (.c (.int .i64 (-2)))⟩])
    (.cond (.t 62) (.region [⟨some 63, none, .mov (.t 0)⟩,
      ⟨some 64, none, .mov (.t 6)⟩,
      ⟨some 65, none, .bin false .add (.t 64) (.c (.int .i64 1))⟩,
      ⟨some 66, none, .arrA 128 1 (.t 1) (.t 63)⟩,
      ⟨none, none, .store 1 (.t 66) (.t 65)⟩])
    .skip))
    (.seq (.region [⟨some 67, none, .mov (.t 0)⟩,
      ⟨some 68, none, .arrA 128 1 (.t 1) (.t 67)⟩,
      ⟨some 69, none, .load 1 false (.t 68)⟩,
      ⟨some 5, none, .mov (.t 69)⟩])
    .ret)))))))), [.tmp 5]⟩
theorem T_table_Depths_1_d : trFn Tryd.prog [(10, [0, 0, 0, 0, 0, 0, 0, 0, 0, 81, 0])] Tryd.f52 = some A_table_Depths_1_d := by kernel_rfl
theorem L_table_Depths_1_d : 4 ≤ Tryd.f52.ntmps := by decide
theorem F_table_Depths_1_d : Tryd.prog.funcs[i_table_Depths_1]? = some Tryd.f52 := F_table_Depths_1
end Go.Proofs.YtmdkcapbahjipaaDoor.Ag
