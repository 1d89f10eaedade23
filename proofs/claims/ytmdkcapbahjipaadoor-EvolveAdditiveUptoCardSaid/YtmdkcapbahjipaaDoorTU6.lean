/- awake of the layer of changes: by the contract of Diff, the rest evaluated. -/
import Derived.Test.YtmdkcapbahjipaaDoorTU4
import Derived.Test.YtmdkcapbahjipaaDoorT6Base
import Derived.Test.YtmdkcapbahjipaaDoorTAirE
set_option maxRecDepth 100000
namespace Go.Proofs.YtmdkcapbahjipaaDoor.Ag.K18
abbrev i_cartouchelaw18_awake : FuncId := 29
theorem F_cartouchelaw18_awake : Tryd.prog.funcs[i_cartouchelaw18_awake]? = some Tryd.f29 := Tryd.func29
abbrev i_cartouchelaw18_same : FuncId := 31
theorem F_cartouchelaw18_same : Tryd.prog.funcs[i_cartouchelaw18_same]? = some Tryd.f31 := Tryd.func31
abbrev i_cartouchelaw7_Simple : FuncId := 41
theorem F_cartouchelaw7_Simple : Tryd.prog.funcs[i_cartouchelaw7_Simple]? = some Tryd.f41 := Tryd.func41
abbrev i_cartouchelaw18_More : FuncId := 57
theorem F_cartouchelaw18_More : Tryd.prog.funcs[i_cartouchelaw18_More]? = some Tryd.f57 := Tryd.func57

abbrev i_evolve_Diff : FuncId := 28
abbrev i_strings_Join : FuncId := 67
abbrev i_strings_explode : FuncId := 99
abbrev i_strings_Count : FuncId := 100
abbrev i_strings_Index : FuncId := 101
def A_cartouchelaw18_awake : AFn := ⟨(.seq (.region [⟨some 0, none, .mov (.c (.bool false))⟩])
 (.seq (.region [⟨some 5, none, .call i_cartouchelaw7_Simple []⟩, ⟨some 6, none, .call i_cartouchelaw18_More []⟩, ⟨some 7, none, .call i_evolve_Diff [.t 5, .t 6]⟩, ⟨some 4, none, .mov (.t 7)⟩, ⟨some 8, none, .ext 0 (.t 4)⟩, ⟨some 9, none, .ext 1 (.t 4)⟩, ⟨some 10, none, .ext 2 (.t 4)⟩, ⟨some 1, none, .mov (.t 8)⟩, ⟨some 2, none, .mov (.t 9)⟩, ⟨some 3, none, .mov (.t 10)⟩])
 (.seq (.region [⟨some 11, none, .mov (.t 3)⟩, ⟨some 12, none, .bin false .eql (.t 11) (.c (.int .i64 0))⟩, ⟨some 13, none, .mov (.t 12)⟩, ⟨some 14, some (13, true), .mov (.t 2)⟩, ⟨some 15, some (13, true), .bin false .eql (.t 14) (.c (.int .i64 2))⟩, ⟨some 16, none, .pickb (.t 13) (.t 15) (.c (.bool false))⟩, ⟨some 17, none, .mov (.t 16)⟩, ⟨some 18, some (17, true), .mov (.t 1)⟩, ⟨some 19, some (17, true), .build [.int .i64 0, .int .i64 0, .str ⟨#[]⟩, .int .i64 0] [(0, 1, .c (.int .i64 2)), (1, 1, .c (.int .i64 6)), (2, 1, .c (.str ⟨#[77]⟩)), (3, 1, .c (.int .i64 4))]⟩, ⟨some 20, some (17, true), .blit 0 101 4 [.t 19]⟩, ⟨some 21, some (17, true), .call i_cartouchelaw18_same [.t 18, .t 20]⟩, ⟨some 22, none, .pickb (.t 17) (.t 21) (.c (.bool false))⟩, ⟨some 0, none, .mov (.t 22)⟩])
    .ret))), [.tmp 0]⟩
theorem T_cartouchelaw18_awake : trFn Tryd.prog [(2, [0, 0, 0, 0, 0, 0, 0, 0, 0, 1, 0, 0, 0])] Tryd.f29 = some A_cartouchelaw18_awake := by kernel_rfl
theorem L_cartouchelaw18_awake : 0 ≤ Tryd.f29.ntmps := by decide

def A_cartouchelaw18_same : AFn := ⟨(.seq (.region [⟨some 4, none, .mov (.c (.bool false))⟩])
 (.seq (.seq (.region [⟨some 6, none, .mov (.t 0)⟩, ⟨some 7, none, .len false (.t 6)⟩, ⟨some 8, none, .mov (.t 1)⟩, ⟨some 9, none, .len false (.t 8)⟩, ⟨some 10, none, .bin false .neq (.t 7) (.t 9)⟩])
 (.cond (.t 10) (.seq (.region [⟨some 4, none, .mov (.c (.bool false))⟩])
    .ret)
    .skip))
 (.seq (.seq (.region [⟨some 5, none, .mov (.c (.int .i64 0))⟩])
 (.block 0 (.loop (.seq (.seq (.region [⟨some 11, none, .mov (.t 5)⟩, ⟨some 12, none, .mov (.t 0)⟩, ⟨some 13, none, .len false (.t 12)⟩, ⟨some 14, none, .bin false .lss (.t 11) (.t 13)⟩])
 (.cond (.t 14) .skip
 (.exit 0)))
 (.seq (.block 1 (.seq (.draw [2, 4, 14, 16, 27, 29, 40, 42, 1000007, 1000009, 1000019, 1000021, 1000032, 1000034, 1000045, 1000047] [⟨some 17, none, .mov (.t 0)⟩, ⟨some 18, none, .mov (.t 5)⟩, ⟨some 19, none, .idxA 4 (.t 17) (.t 18)⟩, ⟨some 20, none, .fldA 0 1 false (.t 19)⟩, ⟨some 21, none, .load 1 false (.t 20)⟩, ⟨some 22, none, .mov (.t 1)⟩, ⟨some 23, none, .mov (.t 5)⟩, ⟨some 24, none, .idxA 4 (.t 22) (.t 23)⟩, ⟨some 25, none, .fldA 0 1 false (.t 24)⟩, ⟨some 26, none, .load 1 false (.t 25)⟩, ⟨some 27, none, .bin false .neq (.t 21) (.t 26)⟩, ⟨some 28, none, .mov (.t 27)⟩, ⟨some 29, some (28, false), .mov (.t 0)⟩, ⟨some 30, some (28, false), .mov (.t 5)⟩, ⟨some 31, some (28, false), .idxA 4 (.t 29) (.t 30)⟩, ⟨some 32, some (28, false), .fldA 1 1 false (.t 31)⟩, ⟨some 33, some (28, false), .load 1 false (.t 32)⟩, ⟨some 34, some (28, false), .mov (.t 1)⟩, ⟨some 35, some (28, false), .mov (.t 5)⟩, ⟨some 36, some (28, false), .idxA 4 (.t 34) (.t 35)⟩, ⟨some 37, some (28, false), .fldA 1 1 false (.t 36)⟩, ⟨some 38, some (28, false), .load 1 false (.t 37)⟩, ⟨some 39, some (28, false), .bin false .neq (.t 33) (.t 38)⟩, ⟨some 40, none, .pickb (.t 28) (.c (.bool true)) (.t 39)⟩, ⟨some 41, none, .mov (.t 40)⟩, ⟨some 42, some (41, false), .mov (.t 0)⟩, ⟨some 43, some (41, false), .mov (.t 5)⟩, ⟨some 44, some (41, false), .idxA 4 (.t 42) (.t 43)⟩, ⟨some 45, some (41, false), .fldA 2 1 false (.t 44)⟩, ⟨some 46, some (41, false), .load 1 false (.t 45)⟩, ⟨some 47, some (41, false), .mov (.t 1)⟩, ⟨some 48, some (41, false), .mov (.t 5)⟩, ⟨some 49, some (41, false), .idxA 4 (.t 47) (.t 48)⟩, ⟨some 50, some (41, false), .fldA 2 1 false (.t 49)⟩, ⟨some 51, some (41, false), .load 1 false (.t 50)⟩, ⟨some 52, some (41, false), .bin false .neq (.t 46) (.t 51)⟩, ⟨some 53, none, .pickb (.t 41) (.c (.bool true)) (.t 52)⟩, ⟨some 54, none, .mov (.t 53)⟩, ⟨some 55, some (54, false), .mov (.t 0)⟩, ⟨some 56, some (54, false), .mov (.t 5)⟩, ⟨some 57, some (54, false), .idxA 4 (.t 55) (.t 56)⟩, ⟨some 58, some (54, false), .fldA 3 1 false (.t 57)⟩, ⟨some 59, some (54, false), .load 1 false (.t 58)⟩, ⟨some 60, some (54, false), .mov (.t 1)⟩, ⟨some 61, some (54, false), .mov (.t 5)⟩, ⟨some 62, some (54, false), .idxA 4 (.t 60) (.t 61)⟩, ⟨some 63, some (54, false), .fldA 3 1 false (.t 62)⟩, ⟨some 64, some (54, false), .load 1 false (.t 63)⟩, ⟨some 65, some (54, false), .bin false .neq (.t 59) (.t 64)⟩, ⟨some 66, none, .pickb (.t 54) (.c (.bool true)) (.t 65)⟩])
 (.cond (.t 66) (.seq (.region [⟨some 4, none, .mov (.c (.bool false))⟩])
    .ret)
    .skip)))
 (.region [⟨some 15, none, .mov (.t 5)⟩, ⟨some 16, none, .bin false .add (.t 15) (.c (.int .i64 1))⟩, ⟨some 5, none, .mov (.t 16)⟩]))))))
 (.seq (.region [⟨some 4, none, .mov (.c (.bool true))⟩])
    .ret)))), [.tmp 4]⟩
theorem T_cartouchelaw18_same : trFn Tryd.prog [(1000006, [2, 4, 14, 16, 27, 29, 40, 42, 1000007, 1000009, 1000019, 1000021, 1000032, 1000034, 1000045, 1000047])] Tryd.f31 = some A_cartouchelaw18_same := by kernel_rfl
theorem L_cartouchelaw18_same : 2 ≤ Tryd.f31.ntmps := by decide

def A_cartouchelaw7_Simple : AFn := ⟨(.seq (.region [⟨some 0, none, .alloc 0 [.nil]⟩])
 (.seq (.region [⟨some 1, none, .build [.str ⟨#[]⟩, .int .i64 0] [(0, 1, .c (.str ⟨#[65]⟩))]⟩, ⟨some 2, none, .blit 0 92 2 [.t 1]⟩, ⟨some 3, none, .build [.str ⟨#[]⟩, .bool false, .nil, .nil, .nil, .nil] [(0, 1, .c (.str ⟨#[69]⟩)), (1, 1, .c (.bool true)), (4, 1, .t 2)]⟩, ⟨some 4, none, .build [.str ⟨#[]⟩, .int .i64 0, .int .i64 0, .int .i64 0, .int .i64 0, .int .i64 0, .int .i64 0] [(0, 1, .c (.str ⟨#[120]⟩)), (1, 1, .c (.int .i64 1)), (2, 1, .c (.int .i64 2))]⟩, ⟨some 5, none, .build [.str ⟨#[]⟩, .int .i64 0, .int .i64 0, .int .i64 0, .int .i64 0, .int .i64 0, .int .i64 0] [(0, 1, .c (.str ⟨#[108]⟩)), (1, 1, .c (.int .i64 2)), (2, 1, .c (.int .i64 4)), (4, 1, .c (.int .i64 3))]⟩, ⟨some 6, none, .build [.str ⟨#[]⟩, .int .i64 0, .int .i64 0, .int .i64 0, .int .i64 0, .int .i64 0, .int .i64 0] [(0, 1, .c (.str ⟨#[109]⟩)), (1, 1, .c (.int .i64 3)), (2, 1, .c (.int .i64 17)), (3, 1, .c (.int .i64 1)), (4, 1, .c (.int .i64 1))]⟩, ⟨some 7, none, .blit 0 33 7 [.t 4, .t 5, .t 6]⟩, ⟨some 8, none, .build [.str ⟨#[]⟩, .bool false, .nil, .nil, .nil, .nil] [(0, 1, .c (.str ⟨#[77]⟩)), (2, 1, .t 7)]⟩, ⟨some 9, none, .blit 0 67 6 [.t 3, .t 8]⟩, ⟨some 10, none, .build [.nil] [(0, 1, .t 9)]⟩, ⟨none, none, .store 1 (.t 0) (.t 10)⟩])
    .ret)), [.cell 0 1 true]⟩
theorem T_cartouchelaw7_Simple : trFn Tryd.prog [(0, [1]), (1, [0, 1, 0, 0, 0, 0, 1, 0, 1, 0, 0])] Tryd.f41 = some A_cartouchelaw7_Simple := by kernel_rfl
theorem L_cartouchelaw7_Simple : 0 ≤ Tryd.f41.ntmps := by decide

def A_cartouchelaw18_More : AFn := ⟨(.seq (.region [⟨some 0, none, .alloc 0 [.nil]⟩])
 (.seq (.region [⟨some 2, none, .call i_cartouchelaw7_Simple []⟩, ⟨some 1, none, .alloc 0 [.nil]⟩, ⟨none, none, .store 1 (.t 1) (.t 2)⟩])
 (.seq (.draw [3, 4, 6, 9, 10, 12, 1000001, 1000007, 2000010, 2000012] [⟨some 3, none, .fldA 0 1 false (.t 1)⟩, ⟨some 4, none, .load 1 false (.t 3)⟩, ⟨some 5, none, .fldA 0 1 false (.t 1)⟩, ⟨some 6, none, .load 1 false (.t 5)⟩, ⟨some 7, none, .idxA 6 (.t 6) (.c (.int .i64 1))⟩, ⟨some 8, none, .fldA 2 1 false (.t 7)⟩, ⟨some 9, none, .load 1 false (.t 8)⟩, ⟨some 10, none, .build [.str ⟨#[]⟩, .int .i64 0, .int .i64 0, .int .i64 0, .int .i64 0, .int .i64 0, .int .i64 0] [(0, 1, .c (.str ⟨#[115]⟩)), (1, 1, .c (.int .i64 4)), (2, 1, .c (.int .i64 14))]⟩, ⟨some 11, none, .bslice 7 [.t 10]⟩, ⟨some 12, none, .app 0 33 7 64 (.t 9) (.t 11)⟩, ⟨some 13, none, .idxA 6 (.t 4) (.c (.int .i64 1))⟩, ⟨some 14, none, .fldA 2 1 false (.t 13)⟩, ⟨none, none, .store 1 (.t 14) (.t 12)⟩])
 (.seq (.region [⟨some 15, none, .load 1 true (.t 1)⟩, ⟨none, none, .store 1 (.t 0) (.t 15)⟩])
    .ret)))), [.cell 0 1 true]⟩
theorem T_cartouchelaw18_More : trFn Tryd.prog [(0, [1]), (1, [0, 1, 0]), (1000002, [3, 4, 6, 9, 10, 12, 1000001, 1000007, 2000010, 2000012])] Tryd.f57 = some A_cartouchelaw18_More := by kernel_rfl
theorem L_cartouchelaw18_More : 0 ≤ Tryd.f57.ntmps := by decide

def tab_aw : Tab := [(i_cartouchelaw18_awake, (0, A_cartouchelaw18_awake)), (i_cartouchelaw18_same, (2, A_cartouchelaw18_same)), (i_cartouchelaw7_Simple, (0, A_cartouchelaw7_Simple)), (i_cartouchelaw18_More, (0, A_cartouchelaw18_More))]
def modes_aw : List (Nat × Nat) := [(i_cartouchelaw18_awake, 1), (i_cartouchelaw18_same, 1), (i_cartouchelaw7_Simple, 2), (i_cartouchelaw18_More, 2)]
theorem tabOk_aw : TabOk Tryd.prog tab_aw := .cons _ _ F_cartouchelaw18_awake T_cartouchelaw18_awake L_cartouchelaw18_awake (by kernel_rfl) (.cons _ _ F_cartouchelaw18_same T_cartouchelaw18_same L_cartouchelaw18_same (by kernel_rfl) (.cons _ _ F_cartouchelaw7_Simple T_cartouchelaw7_Simple L_cartouchelaw7_Simple (by kernel_rfl) (.cons _ _ F_cartouchelaw18_More T_cartouchelaw18_More L_cartouchelaw18_More (by kernel_rfl) (.nil))))

def modesK : List (Nat × Nat) := modes_aw
def simpleIV : IV := match evShut (evF libBase tab_aw modes_aw 1000 60 i_cartouchelaw7_Simple [] []) with
  | some x => nrm x
  | none => .nil
def moreIV : IV := match evShut (evF libBase tab_aw modes_aw 1000 60 i_cartouchelaw18_More [] []) with
  | some x => nrm x
  | none => .nil
theorem simple_ok : okN simpleIV = true := by kernel_rfl
theorem more_ok : okN moreIV = true := by kernel_rfl
theorem simple_is : deepN simpleIV = encTable simpleT := by kernel_rfl
theorem more_is : deepN moreIV = encTable moreT := by kernel_rfl
theorem diff_awake : FC Tryd.prog 28 [simpleIV, moreIV] (· = diffIV) := FC.deep2 simple_ok more_ok (by rw [simple_is, more_is]; exact diff_ex)
def memo1 : List (FuncId × List IV × IV) := [(i_evolve_Diff, [simpleIV, moreIV], diffIV)]
theorem memo1_ok : BaseOk Tryd.prog (memoB memo1 libBase) := memoB_ok libBase_ok fun e he => by
  simp only [memo1, List.mem_cons, List.not_mem_nil, or_false] at he
  subst he
  exact ⟨by kernel_rfl, diff_awake⟩
theorem aw18 : saysTrue (evF (memoB memo1 libBase) tab_aw modesK 1000 60 i_cartouchelaw18_awake [] []) = true := by kernel_rfl
theorem fc_aw18 : FC Tryd.prog 29 [] (· = .bool true) := .ofEv memo1_ok tabOk_aw aw18
end Go.Proofs.YtmdkcapbahjipaaDoor.Ag.K18
namespace Go.Proofs.YtmdkcapbahjipaaDoor.Ag
def g_awake18 : List IV → Option IV
  | [] => some (.bool true)
  | _ => none
theorem g_awake18_ok : ∀ xs r, g_awake18 xs = some r → FC Tryd.prog i_cartouchelaw18_awake xs (· = r) := by
  intro xs r h
  unfold g_awake18 at h
  split at h
  · injection h with h; subst h; exact K18.fc_aw18
  · cases h
theorem g_awake18_is : g_awake18 [] = some (.bool true) := rfl
end Go.Proofs.YtmdkcapbahjipaaDoor.Ag
