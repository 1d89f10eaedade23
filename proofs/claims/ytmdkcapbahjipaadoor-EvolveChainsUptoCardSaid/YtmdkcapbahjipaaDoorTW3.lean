/- The law EvolveChains, walked. -/
import Derived.Test.YtmdkcapbahjipaaDoorTW12
import Derived.Test.YtmdkcapbahjipaaDoorTU6
import Derived.Test.YtmdkcapbahjipaaDoorTAirC
set_option linter.unusedVariables false
set_option linter.unusedSimpArgs false
set_option maxRecDepth 100000
set_option maxHeartbeats 8000000
open Nat renaming reduceEqDiff → zn0, reduceAdd → zn1, reduceSub → zn2, reduceLeDiff → zn3, reduceMul → zn4, reduceBEq → zn5, reducePow → zn6, reduceLT → zn7, reduceDiv → zn8, reduceMod → zn9
open Int renaming reduceLT → zi0, reduceLE → zi1, reduceNeg → zi2, reduceEq → zi3, reduceToNat → zi4
namespace Go.Proofs.YtmdkcapbahjipaaDoor.Ag
attribute [-go_sem] Int.not_lt Int.not_le
noncomputable def envL18c : Env := { split := true, fc := [(i_evolve_Diff, g_evolve_Diff), (i_cartouchelaw18_awake, g_awake18)] }
theorem envL18c_ok : EnvOk Tryd.prog envL18c := (EnvOk.noneS.addF g_awake18_ok).addF g_evolve_Diff_ok
theorem outs_lenW (l : List Chg) : (outs l).length = l.length := by simp [outs]
def VtI (a b c : List Ty) (L : List Chg) (X Y : Int) (n : Nat) (st : St) : Prop := ∃ j : Nat, lk st.ρ 3 = some (.iv (.ref (encTable a))) ∧ lk st.ρ 4 = some (.iv (.ref (encTable b))) ∧ lk st.ρ 5 = some (.iv (.ref (encTable c))) ∧
  lk st.ρ 7 = some (.iv (.slice (outs L))) ∧ lk st.ρ 8 = some (.iv (.int .i64 X)) ∧ lk st.ρ 11 = some (.iv (.int .i64 Y)) ∧ lk st.ρ 15 = some (.iv (.int .i64 (worstN (L.take j)))) ∧ lk st.ρ 16 = some (.iv (.int .i64 (j : Int))) ∧ j ≤ L.length ∧ L.length < j + n
theorem diffV_good {a b : List Ty} (ha : GoodT a) (hb : GoodT b) : diffV a b = .tup [.slice (outs (diffC a b)), .int .i64 (worstN (diffC a b)), .int .i64 0] := by
  unfold diffV; rw [dec_true ha, dec_true hb, if_pos ⟨rfl, rfl⟩]; rfl
theorem diffV_bad {a b : List Ty} (h : ¬ (GoodT a ∧ GoodT b)) : diffV a b = .tup [.slice [], .int .i64 0, .int .i64 18] := by
  unfold diffV; rw [if_neg]; rintro ⟨h1, h2⟩; exact h ⟨dec_iff.1 h1, dec_iff.1 h2⟩
theorem diffC_len2 {a b : List Ty} (ha : GoodT a) (hb : GoodT b) : (diffC a b).length ≤ 4000000000000 := by
  have hg := good_gp ha hb
  have hlen := flatMap_lenK (g := df2 a) b fun s hs => df2_len a s
  have hlen1 := flatMap_lenK (g := df1 a b) a fun s hs => df1_len hg hs
  have lb := hg.lb
  have la := hg.la
  unfold diffC; rw [List.length_append]; omega
theorem evolveChains_fc (a b c : List Ty) (ka : okT a) (kb : okT b) (kc : okT c) : FC Tryd.prog 8 [encTable a, encTable b, encTable c] (· = .bool true) := by
  have h1 := (g_evolve_Diff_is a b).trans (if_pos ⟨ka, kb⟩)
  have h2 := (g_evolve_Diff_is b c).trans (if_pos ⟨kb, kc⟩)
  have h3 := (g_evolve_Diff_is a a).trans (if_pos ⟨ka, ka⟩)
  have h5 := (g_evolve_Diff_is b a).trans (if_pos ⟨kb, ka⟩)
  have h6 := (g_evolve_Diff_is a c).trans (if_pos ⟨ka, kc⟩)
  have h4 := g_awake18_is
  (refine FC.vc (envL18c_ok) F_cartouchelaw18_EvolveChains_c T_cartouchelaw18_EvolveChains_c L_cartouchelaw18_EvolveChains_c ?_; unfold A_cartouchelaw18_EvolveChains_c; simp only [args0, List.map_cons, List.map_nil, List.zipIdx_cons, List.zipIdx_nil, Nat.reduceAdd])
  by_cases hab : GoodT a ∧ GoodT b
  · obtain ⟨ha, hb⟩ := hab
    rw [diffV_good ha hb] at h1
    by_cases hc : GoodT c
    · rw [diffV_good hb hc] at h2
      rw [diffV_good ha ha, diff_refl ha] at h3
      rw [diffV_good hb ha] at h5
      rw [diffV_good ha hc] at h6
      have hT : worstN (diffC a b) ≤ 2 → worstN (diffC b c) ≤ 2 → worstN (diffC a c) ≤ 2 := diff_trans
      have hB : worstN (diffC a b) = 2 → worstN (diffC b a) = 4 := diff_back ha hb
      have hS : worstN (diffC a b) = 1 → worstN (diffC b a) = 1 := fun h => by
        rw [diff_symm ha hb ((worst_nil fun c hc => (diffC_cls hc).1).1 h)]; rfl
      have hln := diffC_len2 ha hb
      have hone := worstN_one (diffC a b)
      simp only [encTable] at h1 h2 h3 h5 h6
      generalize diffC b c = M at h2 hT
      generalize diffC b a = B at h5 hB hS
      generalize diffC a c = Z at h6 hT
      generalize diffC a b = L at h1 hT hB hS hln hone
      have hol := outs_lenW L
      have e0 : outs [] = [] := rfl
      have ew : worstN [] = 1 := rfl
      rw [e0, ew] at h3
      generalize hY : worstN M = Y at h2 hT
      generalize hW : worstN B = W at h5 hB hS
      generalize hZ : worstN Z = V at h6 hT
      generalize hX : worstN L = X at h1 hT hB hS hone
      (simp -implicitDefEqProofs +contextual (maxSteps := 8000000) only [go_sem, ↓reduceIte, zn0, zn1, zn2, zn3, zn4, reduceCtorEq, zn5, zi0, zi1, zi2, zi3, zi4, zn6, zn7, zn8, zn9, encTable, envL18c, i_evolve_Diff, i_cartouchelaw18_awake, h1, h2, h3, h4])
      refine vc_loop (VtI a b c L X Y) (L.length + 1) ⟨0, by simp [lk, encTable], by simp [lk, encTable], by simp [lk, encTable], by simp [lk], by simp [lk], by simp [lk], by simp [lk, worstN], by simp [lk], by omega, by omega⟩ ?_
      rintro n st ⟨j, p3, p4, p5, p7, p8, p11, p15, p16, g1, g2⟩
      simp only [encTable] at p3 p4 p5
      by_cases hj : j < L.length
      · obtain ⟨c', hc'⟩ : ∃ c', L[j]? = some c' := ⟨L[j], by simp [hj]⟩
        have hmc : (outs L)[j]? = some (encChg c') := get_map (f := encChg) hc'
        simp only [encChg] at hmc
        have hw := wrap1 hj (by omega)
        have hlt : (j : Int) < (L.length : Int) := by omega
        have et : L.take (j + 1) = L.take j ++ [c'] := by rw [List.take_add_one, hc']; rfl
        have hwo : (if worstN (L.take j) < c'.cls then c'.cls else worstN (L.take j)) = worstN (L.take (j + 1)) := by rw [et, worstN_snoc]; rfl
        (simp -implicitDefEqProofs +contextual (maxSteps := 8000000) only [go_sem, ↓reduceIte, zn0, zn1, zn2, zn3, zn4, reduceCtorEq, zn5, zi0, zi1, zi2, zi3, zi4, zn6, zn7, zn8, zn9, encTable, envL18c, i_evolve_Diff, i_cartouchelaw18_awake, p3, p4, p5, p7, p8, p11, p15, p16, hol, hj, hlt, hmc, hw, forall_eq'])
        exact ⟨n - 1, by omega, j + 1, by simp [lk, p3, encTable], by simp [lk, p4, encTable], by simp [lk, p5, encTable], by simp [lk, p7], by simp [lk, p8], by simp [lk, p11], by simp [lk, hwo], by simp [lk], by omega, by omega⟩
      · have hlt : ¬ (j : Int) < (L.length : Int) := by omega
        rw [List.take_of_length_le (l := L) (i := j) (by omega), hX] at p15
        by_cases x1 : X = 1
        · have hW1 := hS x1
          subst x1
          subst hW1
          by_cases y2 : 2 < Y
          · (simp -implicitDefEqProofs +contextual (maxSteps := 8000000) only [go_sem, ↓reduceIte, zn0, zn1, zn2, zn3, zn4, reduceCtorEq, zn5, zi0, zi1, zi2, zi3, zi4, zn6, zn7, zn8, zn9, encTable, envL18c, i_evolve_Diff, i_cartouchelaw18_awake, p3, p4, p5, p7, p8, p11, p15, p16, hol, hj, hlt, h5, h6, y2])
          · have hV := hT (by decide) (by omega)
            (simp -implicitDefEqProofs +contextual (maxSteps := 8000000) only [go_sem, ↓reduceIte, zn0, zn1, zn2, zn3, zn4, reduceCtorEq, zn5, zi0, zi1, zi2, zi3, zi4, zn6, zn7, zn8, zn9, encTable, envL18c, i_evolve_Diff, i_cartouchelaw18_awake, p3, p4, p5, p7, p8, p11, p15, p16, hol, hj, hlt, h5, h6, y2, hV])
        · by_cases x2 : X = 2
          · have hW1 := hB x2
            subst x2
            subst hW1
            by_cases y2 : 2 < Y
            · (simp -implicitDefEqProofs +contextual (maxSteps := 8000000) only [go_sem, ↓reduceIte, zn0, zn1, zn2, zn3, zn4, reduceCtorEq, zn5, zi0, zi1, zi2, zi3, zi4, zn6, zn7, zn8, zn9, encTable, envL18c, i_evolve_Diff, i_cartouchelaw18_awake, p3, p4, p5, p7, p8, p11, p15, p16, hol, hj, hlt, h5, h6, y2])
            · have hV := hT (by decide) (by omega)
              (simp -implicitDefEqProofs +contextual (maxSteps := 8000000) only [go_sem, ↓reduceIte, zn0, zn1, zn2, zn3, zn4, reduceCtorEq, zn5, zi0, zi1, zi2, zi3, zi4, zn6, zn7, zn8, zn9, encTable, envL18c, i_evolve_Diff, i_cartouchelaw18_awake, p3, p4, p5, p7, p8, p11, p15, p16, hol, hj, hlt, h5, h6, y2, hV])
          · have x3 : 2 < X := by omega
            (simp -implicitDefEqProofs +contextual (maxSteps := 8000000) only [go_sem, ↓reduceIte, zn0, zn1, zn2, zn3, zn4, reduceCtorEq, zn5, zi0, zi1, zi2, zi3, zi4, zn6, zn7, zn8, zn9, encTable, envL18c, i_evolve_Diff, i_cartouchelaw18_awake, p3, p4, p5, p7, p8, p11, p15, p16, hol, hj, hlt, h5, h6, x1, x2, x3])
    · rw [diffV_bad (fun h => hc h.2)] at h2
      simp only [encTable] at h1 h2
      generalize worstN (diffC a b) = X at h1
      (simp -implicitDefEqProofs +contextual (maxSteps := 8000000) only [go_sem, ↓reduceIte, zn0, zn1, zn2, zn3, zn4, reduceCtorEq, zn5, zi0, zi1, zi2, zi3, zi4, zn6, zn7, zn8, zn9, encTable, envL18c, i_evolve_Diff, i_cartouchelaw18_awake, h1, h2, h4])
  · rw [diffV_bad hab] at h1
    have hbc : ∃ r1 r2 r3 : IV, diffV b c = .tup [r1, r2, r3] ∧ ∃ e, r3 = .int .i64 e := by
      by_cases h : GoodT b ∧ GoodT c
      · exact ⟨_, _, _, diffV_good h.1 h.2, _, rfl⟩
      · exact ⟨_, _, _, diffV_bad h, _, rfl⟩
    obtain ⟨r1, r2, r3, hd, e, rfl⟩ := hbc
    rw [hd] at h2
    simp only [encTable] at h1 h2
    (simp -implicitDefEqProofs +contextual (maxSteps := 8000000) only [go_sem, ↓reduceIte, zn0, zn1, zn2, zn3, zn4, reduceCtorEq, zn5, zi0, zi1, zi2, zi3, zi4, zn6, zn7, zn8, zn9, encTable, envL18c, i_evolve_Diff, i_cartouchelaw18_awake, h1, h2, h4])
end Go.Proofs.YtmdkcapbahjipaaDoor.Ag
