/- The law EvolveDiffs, walked. -/
import Derived.Test.YtmdkcapbahjipaaDoorTU5
import Derived.Test.YtmdkcapbahjipaaDoorTU6
set_option linter.unusedVariables false
set_option linter.unusedSimpArgs false
set_option maxRecDepth 100000
set_option maxHeartbeats 8000000
open Nat renaming reduceEqDiff → zn0, reduceAdd → zn1, reduceSub → zn2, reduceLeDiff → zn3, reduceMul → zn4, reduceBEq → zn5, reducePow → zn6, reduceLT → zn7, reduceDiv → zn8, reduceMod → zn9
open Int renaming reduceLT → zi0, reduceLE → zi1, reduceNeg → zi2, reduceEq → zi3, reduceToNat → zi4
namespace Go.Proofs.YtmdkcapbahjipaaDoor.Ag
attribute [-go_sem] Int.not_lt Int.not_le
noncomputable def envL18d : Env := { split := true, fc := [(i_evolve_Diff, g_evolve_Diff), (i_cartouchelaw18_awake, g_awake18), (i_cartoucheref7_Good, g_cartoucheref7_Good), (i_cartoucheref18_Diff, g_cartoucheref18_Diff), (i_cartouchelaw18_same, g_same18)] }
theorem envL18d_ok : EnvOk Tryd.prog envL18d := ((((EnvOk.noneS.addF g_same18_ok).addF g_cartoucheref18_Diff_ok).addF g_cartoucheref7_Good_ok).addF g_awake18_ok).addF g_evolve_Diff_ok
theorem diffC_len {a b : List Ty} (hg : GP a b) : (diffC a b).length ≤ 4000000000000 := by
  have hlen := flatMap_lenK (g := df2 a) b fun s hs => df2_len a s
  have hlen1 := flatMap_lenK (g := df1 a b) a fun s hs => df1_len hg hs
  have lb := hg.lb
  have la := hg.la
  unfold diffC; rw [List.length_append]; omega
theorem evolveDiffs_fc (a b : List Ty) (ha : okT a) (hb : okT b) : FC Tryd.prog i_cartouchelaw18_EvolveDiffs [encTable a, encTable b] (· = .bool true) := by
  have h1 := (g_evolve_Diff_is a b).trans (if_pos ⟨ha, hb⟩)
  have h2 := (g_cartoucheref7_Good_is a).trans (if_pos ha)
  have h3 := (g_cartoucheref7_Good_is b).trans (if_pos hb)
  have h4 := g_awake18_is
  unfold diffV at h1
  (refine FC.vc (envL18d_ok) F_cartouchelaw18_EvolveDiffs T_cartouchelaw18_EvolveDiffs L_cartouchelaw18_EvolveDiffs ?_; unfold A_cartouchelaw18_EvolveDiffs; simp only [args0, List.map_cons, List.map_nil, List.zipIdx_cons, List.zipIdx_nil, Nat.reduceAdd])
  cases ea : dec (GoodT a) with
  | false =>
    rw [ea, if_neg (by simp)] at h1
    rw [ea] at h2
    simp only [encTable] at h1 h2 h3
    (simp -implicitDefEqProofs +contextual (maxSteps := 8000000) only [go_sem, ↓reduceIte, zn0, zn1, zn2, zn3, zn4, reduceCtorEq, zn5, zi0, zi1, zi2, zi3, zi4, zn6, zn7, zn8, zn9, encTable, envL18d, i_evolve_Diff, i_cartouchelaw18_awake, i_cartoucheref7_Good, i_cartoucheref18_Diff, i_cartouchelaw18_same, h1, h2, h4])
  | true =>
    rw [ea] at h1 h2
    cases eb : dec (GoodT b) with
    | false =>
      rw [eb, if_neg (by simp)] at h1
      rw [eb] at h3
      simp only [encTable] at h1 h2 h3
      (simp -implicitDefEqProofs +contextual (maxSteps := 8000000) only [go_sem, ↓reduceIte, zn0, zn1, zn2, zn3, zn4, reduceCtorEq, zn5, zi0, zi1, zi2, zi3, zi4, zn6, zn7, zn8, zn9, encTable, envL18d, i_evolve_Diff, i_cartouchelaw18_awake, i_cartoucheref7_Good, i_cartoucheref18_Diff, i_cartouchelaw18_same, h1, h2, h3, h4])
    | true =>
      rw [eb, if_pos ⟨rfl, rfl⟩] at h1
      rw [eb] at h3
      have hA := dec_iff.1 ea
      have hB := dec_iff.1 eb
      have h5 := (g_cartoucheref18_Diff_is a b).trans (if_pos (good_rp hA hB))
      rw [refR_is hA hB] at h5
      have h6 := g_same18_is (diffC a b) (diffC_len (good_gp hA hB))
      unfold diffR at h1
      simp only [encTable] at h1 h2 h3 h5
      generalize diffC a b = L at h1 h5 h6
      (simp -implicitDefEqProofs +contextual (maxSteps := 8000000) only [go_sem, ↓reduceIte, zn0, zn1, zn2, zn3, zn4, reduceCtorEq, zn5, zi0, zi1, zi2, zi3, zi4, zn6, zn7, zn8, zn9, encTable, envL18d, i_evolve_Diff, i_cartouchelaw18_awake, i_cartoucheref7_Good, i_cartoucheref18_Diff, i_cartouchelaw18_same, h1, h2, h3, h4, h5, h6])
end Go.Proofs.YtmdkcapbahjipaaDoor.Ag
