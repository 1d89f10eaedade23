/- The law TableGood, walked -/
import Derived.Test.YtmdkcapbahjipaaDoorTM6
import Derived.Test.YtmdkcapbahjipaaDoorK7
set_option linter.unusedVariables false
set_option linter.unusedSimpArgs false
set_option maxRecDepth 100000
set_option maxHeartbeats 4000000
namespace Go.Proofs.YtmdkcapbahjipaaDoor.Ag
def g_awake7 : List IV → Option IV
  | [] => some (.bool true)
  | _ => none
theorem g_awake7_ok : ∀ xs r, g_awake7 xs = some r → FC Tryd.prog i_cartouchelaw7_awake xs (· = r) := by
  intro xs r h
  unfold g_awake7 at h
  split at h
  · injection h with h; subst h; exact K7.fc_aw7
  · cases h
theorem g_awake7_is : g_awake7 [] = some (.bool true) := rfl
end Go.Proofs.YtmdkcapbahjipaaDoor.Ag
namespace Go.Proofs.YtmdkcapbahjipaaDoor.Ag
attribute [-go_sem] Int.not_lt Int.not_le
noncomputable def envL7 : Env := { split := true, fc := [(i_table_Find, g_table_Find), (i_cartoucheref7_Good, g_cartoucheref7_Good), (i_cartouchelaw7_awake, g_awake7), (i_table_Good, g_table_Good), (i_cartoucheref7_Find, g_cartoucheref7_Find)] }
theorem envL7_ok : EnvOk Tryd.prog envL7 := ((((EnvOk.noneS.addF g_cartoucheref7_Find_ok).addF g_table_Good_ok).addF g_awake7_ok).addF g_cartoucheref7_Good_ok).addF g_table_Find_ok
theorem tableGood_fc (t : List Ty) (name : ByteArray) (ht : okT t) : FC Tryd.prog i_cartouchelaw7_TableGood [encTable t, .str name] (· = .bool true) := by
  have h1 := g_table_Find_is t name
  have h2 := g_cartoucheref7_Good_is t
  have h3 := g_table_Good_is t
  have h4 := g_cartoucheref7_Find_is t name
  rw [if_pos ht] at h1 h2 h3
  rw [if_pos ht.1] at h4
  simp only [encTable] at h1 h2 h3 h4
  unfold findP at h1
  unfold findR at h4
  generalize hb : dec (GoodT t) = b at h1 h2 h3
  generalize hf : findI t name = f at h1 h4
  cases b with
  | false =>
    rw [if_neg (by simp)] at h1
    (refine FC.vc (envL7_ok) F_cartouchelaw7_TableGood T_cartouchelaw7_TableGood L_cartouchelaw7_TableGood ?_; unfold A_cartouchelaw7_TableGood; simp only [args0, List.map_cons, List.map_nil, List.zipIdx_cons, List.zipIdx_nil, Nat.reduceAdd])
    (simp -implicitDefEqProofs +contextual (maxSteps := 8000000) only [go_sem, ↓reduceIte, Nat.reduceEqDiff, Nat.reduceAdd, Nat.reduceSub, Nat.reduceLeDiff, Nat.reduceMul, reduceCtorEq, Nat.reduceBEq, Int.reduceLT, Int.reduceLE, Int.reduceNeg, Int.reduceEq, Int.reduceToNat, Nat.reducePow, Nat.reduceLT, Nat.reduceDiv, Nat.reduceMod, encTable, envL7, i_table_Find, i_cartoucheref7_Good, i_cartouchelaw7_awake, i_table_Good, i_cartoucheref7_Find, h1, h2, h3, g_awake7_is])
  | true =>
    rw [if_pos rfl] at h1
    cases f with
    | none =>
      (refine FC.vc (envL7_ok) F_cartouchelaw7_TableGood T_cartouchelaw7_TableGood L_cartouchelaw7_TableGood ?_; unfold A_cartouchelaw7_TableGood; simp only [args0, List.map_cons, List.map_nil, List.zipIdx_cons, List.zipIdx_nil, Nat.reduceAdd])
      (simp -implicitDefEqProofs +contextual (maxSteps := 8000000) only [go_sem, ↓reduceIte, Nat.reduceEqDiff, Nat.reduceAdd, Nat.reduceSub, Nat.reduceLeDiff, Nat.reduceMul, reduceCtorEq, Nat.reduceBEq, Int.reduceLT, Int.reduceLE, Int.reduceNeg, Int.reduceEq, Int.reduceToNat, Nat.reducePow, Nat.reduceLT, Nat.reduceDiv, Nat.reduceMod, encTable, envL7, i_table_Find, i_cartoucheref7_Good, i_cartouchelaw7_awake, i_table_Good, i_cartoucheref7_Find, h1, h2, h3, h4, g_awake7_is])
    | some i =>
      have hi : ¬ (i : Int) < 0 := by omega
      (refine FC.vc (envL7_ok) F_cartouchelaw7_TableGood T_cartouchelaw7_TableGood L_cartouchelaw7_TableGood ?_; unfold A_cartouchelaw7_TableGood; simp only [args0, List.map_cons, List.map_nil, List.zipIdx_cons, List.zipIdx_nil, Nat.reduceAdd])
      (simp -implicitDefEqProofs +contextual (maxSteps := 8000000) only [go_sem, ↓reduceIte, Nat.reduceEqDiff, Nat.reduceAdd, Nat.reduceSub, Nat.reduceLeDiff, Nat.reduceMul, reduceCtorEq, Nat.reduceBEq, Int.reduceLT, Int.reduceLE, Int.reduceNeg, Int.reduceEq, Int.reduceToNat, Nat.reducePow, Nat.reduceLT, Nat.reduceDiv, Nat.reduceMod, encTable, envL7, i_table_Find, i_cartoucheref7_Good, i_cartouchelaw7_awake, i_table_Good, i_cartoucheref7_Find, h1, h2, h3, h4, g_awake7_is, hi])
end Go.Proofs.YtmdkcapbahjipaaDoor.Ag
