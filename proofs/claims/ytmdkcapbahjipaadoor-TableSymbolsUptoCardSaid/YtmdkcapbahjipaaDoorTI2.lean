/- The law TableSymbols, walked. -/
import Derived.Test.YtmdkcapbahjipaaDoorTI1
import Derived.Test.YtmdkcapbahjipaaDoorTM6
import Derived.Test.YtmdkcapbahjipaaDoorTM7
set_option linter.unusedVariables false
set_option linter.unusedSimpArgs false
set_option maxRecDepth 100000
set_option maxHeartbeats 16000000
namespace Go.Proofs.YtmdkcapbahjipaaDoor.Ag
attribute [-go_sem] Int.not_lt Int.not_le
noncomputable def envIm : Env := { split := true, fc := [(i_table_Good, g_table_Good), (i_table_sort, g_table_sort)] }
theorem envIm_ok : EnvOk Tryd.prog envIm := (EnvOk.noneS.addF g_table_sort_ok).addF g_table_Good_ok
theorem IsMessage_fc (t : List Ty) (i : Int) (ht : okT t) : FC Tryd.prog i_table_IsMessage [encTable t, .int .i64 i] (· = .bool (isMsgB t i)) := by
  have h1 := g_table_Good_is t
  have h2 := g_table_sort_is t i false
  rw [if_pos ht] at h1
  simp only [encTable] at h1 h2
  unfold isMsgB
  generalize hb : dec (GoodT t) = b at h1
  cases b with
  | false =>
    (refine FC.vc (envIm_ok) F_table_IsMessage T_table_IsMessage L_table_IsMessage ?_; unfold A_table_IsMessage; simp only [args0, List.map_cons, List.map_nil, List.zipIdx_cons, List.zipIdx_nil, Nat.reduceAdd])
    (simp -implicitDefEqProofs +contextual (maxSteps := 8000000) only [go_sem, ↓reduceIte, Nat.reduceEqDiff, Nat.reduceAdd, Nat.reduceSub, Nat.reduceLeDiff, Nat.reduceMul, reduceCtorEq, Nat.reduceBEq, Int.reduceLT, Int.reduceLE, Int.reduceNeg, Int.reduceEq, Int.reduceToNat, Nat.reducePow, Nat.reduceLT, Nat.reduceDiv, Nat.reduceMod, encTable, envIm, i_table_Good, i_table_sort, h1, h2])
    all_goals simp
  | true =>
    (refine FC.vc (envIm_ok) F_table_IsMessage T_table_IsMessage L_table_IsMessage ?_; unfold A_table_IsMessage; simp only [args0, List.map_cons, List.map_nil, List.zipIdx_cons, List.zipIdx_nil, Nat.reduceAdd])
    (simp -implicitDefEqProofs +contextual (maxSteps := 8000000) only [go_sem, ↓reduceIte, Nat.reduceEqDiff, Nat.reduceAdd, Nat.reduceSub, Nat.reduceLeDiff, Nat.reduceMul, reduceCtorEq, Nat.reduceBEq, Int.reduceLT, Int.reduceLE, Int.reduceNeg, Int.reduceEq, Int.reduceToNat, Nat.reducePow, Nat.reduceLT, Nat.reduceDiv, Nat.reduceMod, encTable, envIm, i_table_Good, i_table_sort, h1, h2])
    all_goals simp
noncomputable def envIs : Env := { split := true, fc := [(i_cartoucheref7_Good, g_cartoucheref7_Good)] }
theorem envIs_ok : EnvOk Tryd.prog envIs := EnvOk.noneS.addF g_cartoucheref7_Good_ok
theorem ref7_Is_fc (t : List Ty) (i : Int) (ht : okT t) : FC Tryd.prog i_cartoucheref7_Is [encTable t, .int .i64 i] (· = .bool (isMsgB t i)) := by
  have h1 := g_cartoucheref7_Good_is t
  rw [if_pos ht] at h1
  simp only [encTable] at h1
  unfold isMsgB sortB
  generalize hb : dec (GoodT t) = b at h1
  cases b with
  | false =>
    (refine FC.vc (envIs_ok) F_cartoucheref7_Is T_cartoucheref7_Is L_cartoucheref7_Is ?_; unfold A_cartoucheref7_Is; simp only [args0, List.map_cons, List.map_nil, List.zipIdx_cons, List.zipIdx_nil, Nat.reduceAdd])
    (simp -implicitDefEqProofs +contextual (maxSteps := 8000000) only [go_sem, ↓reduceIte, Nat.reduceEqDiff, Nat.reduceAdd, Nat.reduceSub, Nat.reduceLeDiff, Nat.reduceMul, reduceCtorEq, Nat.reduceBEq, Int.reduceLT, Int.reduceLE, Int.reduceNeg, Int.reduceEq, Int.reduceToNat, Nat.reducePow, Nat.reduceLT, Nat.reduceDiv, Nat.reduceMod, encTable, envIs, i_cartoucheref7_Good, h1])
    all_goals simp
  | true =>
    by_cases h0 : 0 ≤ i
    · by_cases hl : i < t.length
      · obtain ⟨x, hx⟩ : ∃ x, t[i.toNat]? = some x := ⟨t[i.toNat]'(by omega), by rw [List.getElem?_eq_getElem]⟩
        have hm := get_map (f := encTy) hx
        simp only [encTy] at hm
        (refine FC.vc (envIs_ok) F_cartoucheref7_Is T_cartoucheref7_Is L_cartoucheref7_Is ?_; unfold A_cartoucheref7_Is; simp only [args0, List.map_cons, List.map_nil, List.zipIdx_cons, List.zipIdx_nil, Nat.reduceAdd])
        (simp -implicitDefEqProofs +contextual (maxSteps := 8000000) only [go_sem, ↓reduceIte, Nat.reduceEqDiff, Nat.reduceAdd, Nat.reduceSub, Nat.reduceLeDiff, Nat.reduceMul, reduceCtorEq, Nat.reduceBEq, Int.reduceLT, Int.reduceLE, Int.reduceNeg, Int.reduceEq, Int.reduceToNat, Nat.reducePow, Nat.reduceLT, Nat.reduceDiv, Nat.reduceMod, encTable, envIs, i_cartoucheref7_Good, h1, h0, hl, hm, forall_eq'])
        all_goals simp [hx, h0]
      · have hx : t[i.toNat]? = none := by simp; omega
        (refine FC.vc (envIs_ok) F_cartoucheref7_Is T_cartoucheref7_Is L_cartoucheref7_Is ?_; unfold A_cartoucheref7_Is; simp only [args0, List.map_cons, List.map_nil, List.zipIdx_cons, List.zipIdx_nil, Nat.reduceAdd])
        (simp -implicitDefEqProofs +contextual (maxSteps := 8000000) only [go_sem, ↓reduceIte, Nat.reduceEqDiff, Nat.reduceAdd, Nat.reduceSub, Nat.reduceLeDiff, Nat.reduceMul, reduceCtorEq, Nat.reduceBEq, Int.reduceLT, Int.reduceLE, Int.reduceNeg, Int.reduceEq, Int.reduceToNat, Nat.reducePow, Nat.reduceLT, Nat.reduceDiv, Nat.reduceMod, encTable, envIs, i_cartoucheref7_Good, h1, h0, hl])
        all_goals simp [hx]
    · (refine FC.vc (envIs_ok) F_cartoucheref7_Is T_cartoucheref7_Is L_cartoucheref7_Is ?_; unfold A_cartoucheref7_Is; simp only [args0, List.map_cons, List.map_nil, List.zipIdx_cons, List.zipIdx_nil, Nat.reduceAdd])
      (simp -implicitDefEqProofs +contextual (maxSteps := 8000000) only [go_sem, ↓reduceIte, Nat.reduceEqDiff, Nat.reduceAdd, Nat.reduceSub, Nat.reduceLeDiff, Nat.reduceMul, reduceCtorEq, Nat.reduceBEq, Int.reduceLT, Int.reduceLE, Int.reduceNeg, Int.reduceEq, Int.reduceToNat, Nat.reducePow, Nat.reduceLT, Nat.reduceDiv, Nat.reduceMod, encTable, envIs, i_cartoucheref7_Good, h1, h0])
      all_goals simp
end Go.Proofs.YtmdkcapbahjipaaDoor.Ag
namespace Go.Proofs.YtmdkcapbahjipaaDoor.Ag
open Classical
noncomputable def g_table_IsMessage : List IV → Option IV
  | [t_, .int .i64 i] => (match decTable t_ with
    | some t => if okT t then some (.bool (isMsgB t i)) else none
    | none => none)
  | _ => none
theorem g_table_IsMessage_is (t : List Ty) (i : Int) : g_table_IsMessage [encTable t, .int .i64 i] = if okT t then some (.bool (isMsgB t i)) else none := by
  simp only [g_table_IsMessage, decTable_enc]
theorem g_table_IsMessage_ok : ∀ xs r, g_table_IsMessage xs = some r → FC Tryd.prog i_table_IsMessage xs (· = r) := by
  intro xs r h
  unfold g_table_IsMessage at h
  split at h
  · rename_i t_ i
    split at h
    · rename_i t ht
      split at h
      · rename_i hpre
        injection h with h; subst h
        have := decTable_enc_inv ht; subst this
        exact IsMessage_fc t i hpre
      · cases h
    · cases h
  · cases h

noncomputable def g_cartoucheref7_Is : List IV → Option IV
  | [t_, .int .i64 i] => (match decTable t_ with
    | some t => if okT t then some (.bool (isMsgB t i)) else none
    | none => none)
  | _ => none
theorem g_cartoucheref7_Is_is (t : List Ty) (i : Int) : g_cartoucheref7_Is [encTable t, .int .i64 i] = if okT t then some (.bool (isMsgB t i)) else none := by
  simp only [g_cartoucheref7_Is, decTable_enc]
theorem g_cartoucheref7_Is_ok : ∀ xs r, g_cartoucheref7_Is xs = some r → FC Tryd.prog i_cartoucheref7_Is xs (· = r) := by
  intro xs r h
  unfold g_cartoucheref7_Is at h
  split at h
  · rename_i t_ i
    split at h
    · rename_i t ht
      split at h
      · rename_i hpre
        injection h with h; subst h
        have := decTable_enc_inv ht; subst this
        exact ref7_Is_fc t i hpre
      · cases h
    · cases h
  · cases h

end Go.Proofs.YtmdkcapbahjipaaDoor.Ag
namespace Go.Proofs.YtmdkcapbahjipaaDoor.Ag
noncomputable def envTs : Env := { split := true, fc := [(i_table_Good, g_table_Good), (i_table_sort, g_table_sort), (i_table_SymbolAt, g_table_SymbolAt)] }
theorem envTs_ok : EnvOk Tryd.prog envTs := ((EnvOk.noneS.addF g_table_SymbolAt_ok).addF g_table_sort_ok).addF g_table_Good_ok
theorem table_Symbol_fc (t : List Ty) (i num : Int) (ht : okT t) : FC Tryd.prog i_table_Symbol [encTable t, .int .i64 i, .int .i64 num] (· = symbolP t i num) := by
  have h1 := g_table_Good_is t
  have h2 := g_table_sort_is t i true
  rw [if_pos ht] at h1
  simp only [encTable] at h1 h2
  unfold symbolP
  cases hb : isEnB t i with
  | false =>
    rw [onEn_no hb]
    unfold isEnB at hb
    generalize hg : dec (GoodT t) = b at h1 hb
    generalize hs : sortB t i true = c at h2 hb
    cases b with
    | false =>
      (refine FC.vc (envTs_ok) F_table_Symbol T_table_Symbol L_table_Symbol ?_; unfold A_table_Symbol; simp only [args0, List.map_cons, List.map_nil, List.zipIdx_cons, List.zipIdx_nil, Nat.reduceAdd])
      (simp -implicitDefEqProofs +contextual (maxSteps := 8000000) only [go_sem, ↓reduceIte, Nat.reduceEqDiff, Nat.reduceAdd, Nat.reduceSub, Nat.reduceLeDiff, Nat.reduceMul, reduceCtorEq, Nat.reduceBEq, Int.reduceLT, Int.reduceLE, Int.reduceNeg, Int.reduceEq, Int.reduceToNat, Nat.reducePow, Nat.reduceLT, Nat.reduceDiv, Nat.reduceMod, encTable, envTs, i_table_Good, i_table_sort, i_table_SymbolAt, h1, h2])
    | true =>
      cases c with
      | true => cases hb
      | false =>
        (refine FC.vc (envTs_ok) F_table_Symbol T_table_Symbol L_table_Symbol ?_; unfold A_table_Symbol; simp only [args0, List.map_cons, List.map_nil, List.zipIdx_cons, List.zipIdx_nil, Nat.reduceAdd])
        (simp -implicitDefEqProofs +contextual (maxSteps := 8000000) only [go_sem, ↓reduceIte, Nat.reduceEqDiff, Nat.reduceAdd, Nat.reduceSub, Nat.reduceLeDiff, Nat.reduceMul, reduceCtorEq, Nat.reduceBEq, Int.reduceLT, Int.reduceLE, Int.reduceNeg, Int.reduceEq, Int.reduceToNat, Nat.reducePow, Nat.reduceLT, Nat.reduceDiv, Nat.reduceMod, encTable, envTs, i_table_Good, i_table_sort, i_table_SymbolAt, h1, h2])
  | true =>
    obtain ⟨n, x, rfl, hx, he, hm⟩ := isEn_get hb
    rw [onEn_yes hb hx]
    unfold isEnB at hb
    rw [Bool.and_eq_true] at hb
    rw [hb.1] at h1
    rw [hb.2] at h2
    have h3 := g_table_SymbolAt_is x num
    rw [if_pos (Nat.le_trans hm.2.1 (by omega))] at h3
    simp only [encTy, he] at h3
    have hmx := get_map (f := encTy) hx
    simp only [encTy, he] at hmx
    have hil := (List.getElem?_eq_some_iff.1 hx).1
    have hili : (n : Int) < (t.length : Int) := by omega
    cases ha : syF x.syms num with
    | none =>
      rw [ha] at h3
      simp only [orS] at h3 ⊢
      (refine FC.vc (envTs_ok) F_table_Symbol T_table_Symbol L_table_Symbol ?_; unfold A_table_Symbol; simp only [args0, List.map_cons, List.map_nil, List.zipIdx_cons, List.zipIdx_nil, Nat.reduceAdd])
      (simp -implicitDefEqProofs +contextual (maxSteps := 8000000) only [go_sem, ↓reduceIte, Nat.reduceEqDiff, Nat.reduceAdd, Nat.reduceSub, Nat.reduceLeDiff, Nat.reduceMul, reduceCtorEq, Nat.reduceBEq, Int.reduceLT, Int.reduceLE, Int.reduceNeg, Int.reduceEq, Int.reduceToNat, Nat.reducePow, Nat.reduceLT, Nat.reduceDiv, Nat.reduceMod, encTable, envTs, i_table_Good, i_table_sort, i_table_SymbolAt, h1, h2, h3, hmx, hil, hili, forall_eq'])
    | some f =>
      rw [ha] at h3
      simp only [orS] at h3 ⊢
      (refine FC.vc (envTs_ok) F_table_Symbol T_table_Symbol L_table_Symbol ?_; unfold A_table_Symbol; simp only [args0, List.map_cons, List.map_nil, List.zipIdx_cons, List.zipIdx_nil, Nat.reduceAdd])
      (simp -implicitDefEqProofs +contextual (maxSteps := 8000000) only [go_sem, ↓reduceIte, Nat.reduceEqDiff, Nat.reduceAdd, Nat.reduceSub, Nat.reduceLeDiff, Nat.reduceMul, reduceCtorEq, Nat.reduceBEq, Int.reduceLT, Int.reduceLE, Int.reduceNeg, Int.reduceEq, Int.reduceToNat, Nat.reducePow, Nat.reduceLT, Nat.reduceDiv, Nat.reduceMod, encTable, envTs, i_table_Good, i_table_sort, i_table_SymbolAt, h1, h2, h3, hmx, hil, hili, forall_eq'])
def TsI (x : Ty) (name : ByteArray) (n : Nat) (st : St) : Prop := ∃ i : Nat, lk st.ρ 2 = some (.iv (.str name)) ∧ lk st.ρ 24 = some (.iv (.slice (x.syms.map encSym))) ∧ lk st.ρ 25 = some (.iv (.int .i64 (x.syms.length : Int))) ∧ lk st.ρ 26 = some (.iv (.int .i64 (i : Int))) ∧
  i ≤ x.syms.length ∧ x.syms.length < i + n ∧ ∀ z ∈ x.syms.take i, decide (z.name = name) = false
theorem table_Number_fc (t : List Ty) (i : Int) (name : ByteArray) (ht : okT t) : FC Tryd.prog i_table_Number [encTable t, .int .i64 i, .str name] (· = numberP t i name) := by
  have h1 := g_table_Good_is t
  have h2 := g_table_sort_is t i true
  rw [if_pos ht] at h1
  simp only [encTable] at h1 h2
  unfold numberP
  cases hb : isEnB t i with
  | false =>
    rw [onEn_no hb]
    unfold isEnB at hb
    generalize hg : dec (GoodT t) = b at h1 hb
    generalize hs : sortB t i true = c at h2 hb
    cases b with
    | false =>
      (refine FC.vc (envTs_ok) F_table_Number T_table_Number L_table_Number ?_; unfold A_table_Number; simp only [args0, List.map_cons, List.map_nil, List.zipIdx_cons, List.zipIdx_nil, Nat.reduceAdd])
      (simp -implicitDefEqProofs +contextual (maxSteps := 8000000) only [go_sem, ↓reduceIte, Nat.reduceEqDiff, Nat.reduceAdd, Nat.reduceSub, Nat.reduceLeDiff, Nat.reduceMul, reduceCtorEq, Nat.reduceBEq, Int.reduceLT, Int.reduceLE, Int.reduceNeg, Int.reduceEq, Int.reduceToNat, Nat.reducePow, Nat.reduceLT, Nat.reduceDiv, Nat.reduceMod, encTable, envTs, i_table_Good, i_table_sort, i_table_SymbolAt, h1, h2])
    | true =>
      cases c with
      | true => cases hb
      | false =>
        (refine FC.vc (envTs_ok) F_table_Number T_table_Number L_table_Number ?_; unfold A_table_Number; simp only [args0, List.map_cons, List.map_nil, List.zipIdx_cons, List.zipIdx_nil, Nat.reduceAdd])
        (simp -implicitDefEqProofs +contextual (maxSteps := 8000000) only [go_sem, ↓reduceIte, Nat.reduceEqDiff, Nat.reduceAdd, Nat.reduceSub, Nat.reduceLeDiff, Nat.reduceMul, reduceCtorEq, Nat.reduceBEq, Int.reduceLT, Int.reduceLE, Int.reduceNeg, Int.reduceEq, Int.reduceToNat, Nat.reducePow, Nat.reduceLT, Nat.reduceDiv, Nat.reduceMod, encTable, envTs, i_table_Good, i_table_sort, i_table_SymbolAt, h1, h2])
  | true =>
    obtain ⟨n, x, rfl, hx, he, hm⟩ := isEn_get hb
    rw [onEn_yes hb hx]
    unfold isEnB at hb
    rw [Bool.and_eq_true] at hb
    rw [hb.1] at h1
    rw [hb.2] at h2
    have hl : x.syms.length ≤ 2000000 := Nat.le_trans hm.2.1 (by omega)
    have hmx := get_map (f := encTy) hx
    simp only [encTy, he] at hmx
    have hil := (List.getElem?_eq_some_iff.1 hx).1
    have hili : (n : Int) < (t.length : Int) := by omega
    (refine FC.vc (envTs_ok) F_table_Number T_table_Number L_table_Number ?_; unfold A_table_Number; simp only [args0, List.map_cons, List.map_nil, List.zipIdx_cons, List.zipIdx_nil, Nat.reduceAdd])
    (simp -implicitDefEqProofs +contextual (maxSteps := 8000000) only [go_sem, ↓reduceIte, Nat.reduceEqDiff, Nat.reduceAdd, Nat.reduceSub, Nat.reduceLeDiff, Nat.reduceMul, reduceCtorEq, Nat.reduceBEq, Int.reduceLT, Int.reduceLE, Int.reduceNeg, Int.reduceEq, Int.reduceToNat, Nat.reducePow, Nat.reduceLT, Nat.reduceDiv, Nat.reduceMod, encTable, envTs, i_table_Good, i_table_sort, i_table_SymbolAt, h1, h2, hmx, hil, hili, forall_eq'])
    refine vc_loop (TsI x name) (x.syms.length + 1) ⟨0, by simp [lk], by simp [lk], by simp [lk], by simp [lk], by omega, by omega, by simp⟩ ?_
    rintro m st ⟨j, p2, p24, p25, p26, g1, g2, g3⟩
    by_cases hj : j < x.syms.length
    · obtain ⟨f, hf⟩ : ∃ f, x.syms[j]? = some f := ⟨x.syms[j], by simp [hj]⟩
      have hmf := get_map (f := encSym) hf
      simp only [encSym] at hmf
      have hw := wrap1 hj (by omega)
      have hlt : (j : Int) < (x.syms.length : Int) := by omega
      by_cases e1 : f.name = name
      · have hs : syN x.syms name = some f := find_at g3 hf (by simpa using e1)
        rw [hs]
        unfold orN
        rcases hz : lk st.σ 0 with _ | ⟨v1, it1⟩
        all_goals
          (simp -implicitDefEqProofs +contextual (maxSteps := 8000000) only [go_sem, ↓reduceIte, Nat.reduceEqDiff, Nat.reduceAdd, Nat.reduceSub, Nat.reduceLeDiff, Nat.reduceMul, reduceCtorEq, Nat.reduceBEq, Int.reduceLT, Int.reduceLE, Int.reduceNeg, Int.reduceEq, Int.reduceToNat, Nat.reducePow, Nat.reduceLT, Nat.reduceDiv, Nat.reduceMod, envTs, p2, p24, p25, p26, hj, hlt, hmf, hw, hz, e1, forall_eq'])
      · rcases hz : lk st.σ 0 with _ | ⟨v1, it1⟩
        all_goals
          (simp -implicitDefEqProofs +contextual (maxSteps := 8000000) only [go_sem, ↓reduceIte, Nat.reduceEqDiff, Nat.reduceAdd, Nat.reduceSub, Nat.reduceLeDiff, Nat.reduceMul, reduceCtorEq, Nat.reduceBEq, Int.reduceLT, Int.reduceLE, Int.reduceNeg, Int.reduceEq, Int.reduceToNat, Nat.reducePow, Nat.reduceLT, Nat.reduceDiv, Nat.reduceMod, envTs, p2, p24, p25, p26, hj, hlt, hmf, hw, hz, e1, forall_eq'])
          exact ⟨m - 1, by omega, j + 1, by simp [lk, p2], by simp [lk, p24], by simp [lk, p25], by simp [lk], by omega, by omega, take_all2 g3 hf (by simpa using e1)⟩
    · have hlt : ¬ (j : Int) < (x.syms.length : Int) := by omega
      rw [List.take_of_length_le (by omega)] at g3
      have hs : syN x.syms name = none := find_no g3
      rw [hs]
      unfold orN
      (simp -implicitDefEqProofs +contextual (maxSteps := 8000000) only [go_sem, ↓reduceIte, Nat.reduceEqDiff, Nat.reduceAdd, Nat.reduceSub, Nat.reduceLeDiff, Nat.reduceMul, reduceCtorEq, Nat.reduceBEq, Int.reduceLT, Int.reduceLE, Int.reduceNeg, Int.reduceEq, Int.reduceToNat, Nat.reducePow, Nat.reduceLT, Nat.reduceDiv, Nat.reduceMod, envTs, p2, p24, p25, p26, hj, hlt])
noncomputable def envTd : Env := { split := true, fc := [(i_table_IsMessage, g_table_IsMessage)], gr := [(52, fun vs σ Q => GC Tryd.prog 52 vs σ Q)] }
theorem envTd_ok : EnvOk Tryd.prog envTd := EnvOk.addF (E := { split := true, gr := [(52, fun vs σ Q => GC Tryd.prog 52 vs σ Q)] }) (EnvOk.addR EnvOk.noneS callOk52) g_table_IsMessage_ok
theorem table_Depths_fc (t : List Ty) (i : Int) (ht : okT t) : FC Tryd.prog i_table_Depths [encTable t, .int .i64 i] (· = depthsP t i) := by
  have h1 := g_table_IsMessage_is t i
  rw [if_pos ht] at h1
  simp only [encTable] at h1
  unfold depthsP
  cases hb : isMsgB t i with
  | false =>
    rw [hb] at h1
    (refine FC.vc (envTd_ok) F_table_Depths T_table_Depths L_table_Depths ?_; unfold A_table_Depths; simp only [args0, List.map_cons, List.map_nil, List.zipIdx_cons, List.zipIdx_nil, Nat.reduceAdd])
    (simp -implicitDefEqProofs +contextual (maxSteps := 8000000) only [go_sem, ↓reduceIte, Nat.reduceEqDiff, Nat.reduceAdd, Nat.reduceSub, Nat.reduceLeDiff, Nat.reduceMul, reduceCtorEq, Nat.reduceBEq, Int.reduceLT, Int.reduceLE, Int.reduceNeg, Int.reduceEq, Int.reduceToNat, Nat.reducePow, Nat.reduceLT, Nat.reduceDiv, Nat.reduceMod, encTable, envTd, i_table_IsMessage, h1])
  | true =>
    obtain ⟨n, x, rfl, hx, he, hm⟩ := isMsg_get hb
    rw [hb] at h1
    have hg : GoodT t := by
      unfold isMsgB at hb
      rw [Bool.and_eq_true] at hb
      exact dec_iff.1 hb.1
    have hil := (List.getElem?_eq_some_iff.1 hx).1
    have hz : List.replicate 128 (TV.iv (.int .i64 0)) = (List.replicate 128 (0 : Int)).map cellI := by rw [List.map_replicate]; rfl
    have hI : InvD (succs t) t.length (List.replicate 128 (0 : Int)) [] := by
      refine ⟨by simp, fun j => ?_, fun j v hv => ?_, fun j v hj hv => ?_⟩
      · rw [List.getElem?_replicate]
        constructor
        · intro h; cases h
        · intro h; split at h <;> simp at h
      · rw [List.getElem?_replicate] at hv; split at hv <;> simp at hv; exact .inl hv.symm
      · rw [List.getElem?_replicate] at hv; split at hv <;> simp at hv; exact hv.symm
    (refine FC.vc (envTd_ok) F_table_Depths T_table_Depths L_table_Depths ?_; unfold A_table_Depths; simp only [args0, List.map_cons, List.map_nil, List.zipIdx_cons, List.zipIdx_nil, Nat.reduceAdd])
    (simp -implicitDefEqProofs +contextual (maxSteps := 8000000) only [go_sem, ↓reduceIte, Nat.reduceEqDiff, Nat.reduceAdd, Nat.reduceSub, Nat.reduceLeDiff, Nat.reduceMul, reduceCtorEq, Nat.reduceBEq, Int.reduceLT, Int.reduceLE, Int.reduceNeg, Int.reduceEq, Int.reduceToNat, Nat.reducePow, Nat.reduceLT, Nat.reduceDiv, Nat.reduceMod, encTable, envTd, i_table_IsMessage, h1])
    refine vcEx_mk (DeepQ (succs t) t.length (List.replicate 128 (0 : Int)) [] n 0 _) (deep_gc t hg.1 (good_refs hg) 129 n (List.replicate 128 (0 : Int)) [] 0 0 _ (by decide) hI (by simp [TopD, PathD]) hil (by rw [← hz]; simp [lk_upd, lk, List.replicate]) (by simp [lk_upd, lk, deepFn, encTable])) ?_
    rintro res σ2 ⟨s2, q0, q1, q2, hcase⟩
    have hdep : depthN t n = if dR (succs t) (t.length + 1) n > t.length then 0 else dR (succs t) (t.length + 1) n := rfl
    rcases hcase with ⟨rfl, hinf⟩ | ⟨d, rfl, hf, hI2, c1, c2, c3⟩
    · have hd : depthN t n = 0 := by rw [hdep, hinf, if_pos (by omega)]
      (simp -implicitDefEqProofs +contextual (maxSteps := 8000000) only [go_sem, ↓reduceIte, Nat.reduceEqDiff, Nat.reduceAdd, Nat.reduceSub, Nat.reduceLeDiff, Nat.reduceMul, reduceCtorEq, Nat.reduceBEq, Int.reduceLT, Int.reduceLE, Int.reduceNeg, Int.reduceEq, Int.reduceToNat, Nat.reducePow, Nat.reduceLT, Nat.reduceDiv, Nat.reduceMod, encTable, envTd, hd, Int.toNat_natCast])
    · have hle : d ≤ t.length := Nat.le_trans c1 (cp_le hI2.out)
      have hd : depthN t n = d := by rw [hdep, depth_is hf hle, if_neg (by omega)]
      have hd0 : ¬ (d : Int) < 0 := by omega
      have hd1 := hf.1
      have hdp : (0 : Int) < (d : Int) := by omega
      (simp -implicitDefEqProofs +contextual (maxSteps := 8000000) only [go_sem, ↓reduceIte, Nat.reduceEqDiff, Nat.reduceAdd, Nat.reduceSub, Nat.reduceLeDiff, Nat.reduceMul, reduceCtorEq, Nat.reduceBEq, Int.reduceLT, Int.reduceLE, Int.reduceNeg, Int.reduceEq, Int.reduceToNat, Nat.reducePow, Nat.reduceLT, Nat.reduceDiv, Nat.reduceMod, encTable, envTd, hd, hd0, hdp, hd1, Int.toNat_natCast])
end Go.Proofs.YtmdkcapbahjipaaDoor.Ag
namespace Go.Proofs.YtmdkcapbahjipaaDoor.Ag
open Classical
noncomputable def g_table_Symbol : List IV → Option IV
  | [t_, .int .i64 i, .int .i64 num] => (match decTable t_ with
    | some t => if okT t then some (symbolP t i num) else none
    | none => none)
  | _ => none
theorem g_table_Symbol_is (t : List Ty) (i : Int) (num : Int) : g_table_Symbol [encTable t, .int .i64 i, .int .i64 num] = if okT t then some (symbolP t i num) else none := by
  simp only [g_table_Symbol, decTable_enc]
theorem g_table_Symbol_ok : ∀ xs r, g_table_Symbol xs = some r → FC Tryd.prog i_table_Symbol xs (· = r) := by
  intro xs r h
  unfold g_table_Symbol at h
  split at h
  · rename_i t_ i num
    split at h
    · rename_i t ht
      split at h
      · rename_i hpre
        injection h with h; subst h
        have := decTable_enc_inv ht; subst this
        exact table_Symbol_fc t i num hpre
      · cases h
    · cases h
  · cases h

noncomputable def g_table_Number : List IV → Option IV
  | [t_, .int .i64 i, .str name] => (match decTable t_ with
    | some t => if okT t then some (numberP t i name) else none
    | none => none)
  | _ => none
theorem g_table_Number_is (t : List Ty) (i : Int) (name : ByteArray) : g_table_Number [encTable t, .int .i64 i, .str name] = if okT t then some (numberP t i name) else none := by
  simp only [g_table_Number, decTable_enc]
theorem g_table_Number_ok : ∀ xs r, g_table_Number xs = some r → FC Tryd.prog i_table_Number xs (· = r) := by
  intro xs r h
  unfold g_table_Number at h
  split at h
  · rename_i t_ i name
    split at h
    · rename_i t ht
      split at h
      · rename_i hpre
        injection h with h; subst h
        have := decTable_enc_inv ht; subst this
        exact table_Number_fc t i name hpre
      · cases h
    · cases h
  · cases h

noncomputable def g_table_Depths : List IV → Option IV
  | [t_, .int .i64 i] => (match decTable t_ with
    | some t => if okT t then some (depthsP t i) else none
    | none => none)
  | _ => none
theorem g_table_Depths_is (t : List Ty) (i : Int) : g_table_Depths [encTable t, .int .i64 i] = if okT t then some (depthsP t i) else none := by
  simp only [g_table_Depths, decTable_enc]
theorem g_table_Depths_ok : ∀ xs r, g_table_Depths xs = some r → FC Tryd.prog i_table_Depths xs (· = r) := by
  intro xs r h
  unfold g_table_Depths at h
  split at h
  · rename_i t_ i
    split at h
    · rename_i t ht
      split at h
      · rename_i hpre
        injection h with h; subst h
        have := decTable_enc_inv ht; subst this
        exact table_Depths_fc t i hpre
      · cases h
    · cases h
  · cases h

end Go.Proofs.YtmdkcapbahjipaaDoor.Ag
namespace Go.Proofs.YtmdkcapbahjipaaDoor.Ag
noncomputable def envTS : Env := { split := true, fc := [(i_table_Symbol, g_table_Symbol), (i_table_Number, g_table_Number), (i_table_Depths, g_table_Depths), (i_cartouchelaw7_awake, g_awake7), (i_cartoucheref7_Is, g_cartoucheref7_Is), (i_cartoucheref7_Good, g_cartoucheref7_Good), (i_cartoucheref7_Symbol, g_cartoucheref7_Symbol), (i_cartoucheref7_Number, g_cartoucheref7_Number), (i_cartoucheref7_Depths, g_cartoucheref7_Depths)] }
theorem envTS_ok : EnvOk Tryd.prog envTS := ((((((((EnvOk.noneS.addF g_cartoucheref7_Depths_ok).addF g_cartoucheref7_Number_ok).addF g_cartoucheref7_Symbol_ok).addF g_cartoucheref7_Good_ok).addF g_cartoucheref7_Is_ok).addF g_awake7_ok).addF g_table_Depths_ok).addF g_table_Number_ok).addF g_table_Symbol_ok
theorem tableSymbols_fc (t : List Ty) (i num : Int) (name : ByteArray) (ht : okT t) : FC Tryd.prog i_cartouchelaw7_TableSymbols [encTable t, .int .i64 i, .int .i64 num, .str name] (· = .bool true) := by
  have h1 := g_table_Symbol_is t i num
  have h2 := g_table_Number_is t i name
  have h3 := g_table_Depths_is t i
  have h4 := g_cartoucheref7_Is_is t i
  have h5 := g_cartoucheref7_Good_is t
  rw [if_pos ht] at h1 h2 h3 h4 h5
  simp only [encTable] at h1 h2 h3 h4 h5
  unfold symbolP at h1
  unfold numberP at h2
  unfold depthsP at h3
  cases hb : isMsgB t i with
  | true =>
    obtain ⟨n, x, rfl, hx, he, hm⟩ := isMsg_get hb
    have hg : GoodT t := by
      unfold isMsgB at hb
      rw [Bool.and_eq_true] at hb
      exact dec_iff.1 hb.1
    have hil := (List.getElem?_eq_some_iff.1 hx).1
    have hen : isEnB t (n : Int) = false := by simp [isEnB, sortB, hx, he]
    have h8 := g_cartoucheref7_Depths_is t (n : Int)
    rw [if_pos ⟨n, rfl, hg.1, good_refs hg, hil⟩] at h8
    simp only [encTable] at h8
    rw [onEn_no hen] at h1 h2
    rw [hb] at h3 h4
    rw [if_pos rfl] at h3
    (refine FC.vc (envTS_ok) F_cartouchelaw7_TableSymbols T_cartouchelaw7_TableSymbols L_cartouchelaw7_TableSymbols ?_; unfold A_cartouchelaw7_TableSymbols; simp only [args0, List.map_cons, List.map_nil, List.zipIdx_cons, List.zipIdx_nil, Nat.reduceAdd])
    (simp -implicitDefEqProofs +contextual (maxSteps := 8000000) only [go_sem, ↓reduceIte, Nat.reduceEqDiff, Nat.reduceAdd, Nat.reduceSub, Nat.reduceLeDiff, Nat.reduceMul, reduceCtorEq, Nat.reduceBEq, Int.reduceLT, Int.reduceLE, Int.reduceNeg, Int.reduceEq, Int.reduceToNat, Nat.reducePow, Nat.reduceLT, Nat.reduceDiv, Nat.reduceMod, encTable, envTS, i_table_Symbol, i_table_Number, i_table_Depths, i_cartouchelaw7_awake, i_cartoucheref7_Is, i_cartoucheref7_Good, i_cartoucheref7_Symbol, i_cartoucheref7_Number, i_cartoucheref7_Depths, g_awake7_is, h1, h2, h3, h4, h5, h8])
  | false =>
    rw [hb] at h3 h4
    rw [if_neg (by simp)] at h3
    cases hd : dec (GoodT t) with
    | false =>
      have hen : isEnB t i = false := by simp [isEnB, hd]
      rw [onEn_no hen] at h1 h2
      rw [hd] at h5
      (refine FC.vc (envTS_ok) F_cartouchelaw7_TableSymbols T_cartouchelaw7_TableSymbols L_cartouchelaw7_TableSymbols ?_; unfold A_cartouchelaw7_TableSymbols; simp only [args0, List.map_cons, List.map_nil, List.zipIdx_cons, List.zipIdx_nil, Nat.reduceAdd])
      (simp -implicitDefEqProofs +contextual (maxSteps := 8000000) only [go_sem, ↓reduceIte, Nat.reduceEqDiff, Nat.reduceAdd, Nat.reduceSub, Nat.reduceLeDiff, Nat.reduceMul, reduceCtorEq, Nat.reduceBEq, Int.reduceLT, Int.reduceLE, Int.reduceNeg, Int.reduceEq, Int.reduceToNat, Nat.reducePow, Nat.reduceLT, Nat.reduceDiv, Nat.reduceMod, encTable, envTS, i_table_Symbol, i_table_Number, i_table_Depths, i_cartouchelaw7_awake, i_cartoucheref7_Is, i_cartoucheref7_Good, i_cartoucheref7_Symbol, i_cartoucheref7_Number, i_cartoucheref7_Depths, g_awake7_is, h1, h2, h3, h4, h5])
    | true =>
      rw [hd] at h5
      by_cases hi0 : i < 0
      · have hen : isEnB t i = false := by unfold isEnB sortB; rw [show decide (0 ≤ i) = false from decide_eq_false (by omega)]; simp
        rw [onEn_no hen] at h1 h2
        (refine FC.vc (envTS_ok) F_cartouchelaw7_TableSymbols T_cartouchelaw7_TableSymbols L_cartouchelaw7_TableSymbols ?_; unfold A_cartouchelaw7_TableSymbols; simp only [args0, List.map_cons, List.map_nil, List.zipIdx_cons, List.zipIdx_nil, Nat.reduceAdd])
        (simp -implicitDefEqProofs +contextual (maxSteps := 8000000) only [go_sem, ↓reduceIte, Nat.reduceEqDiff, Nat.reduceAdd, Nat.reduceSub, Nat.reduceLeDiff, Nat.reduceMul, reduceCtorEq, Nat.reduceBEq, Int.reduceLT, Int.reduceLE, Int.reduceNeg, Int.reduceEq, Int.reduceToNat, Nat.reducePow, Nat.reduceLT, Nat.reduceDiv, Nat.reduceMod, encTable, envTS, i_table_Symbol, i_table_Number, i_table_Depths, i_cartouchelaw7_awake, i_cartoucheref7_Is, i_cartoucheref7_Good, i_cartoucheref7_Symbol, i_cartoucheref7_Number, i_cartoucheref7_Depths, g_awake7_is, h1, h2, h3, h4, h5, hi0])
      · obtain ⟨n, rfl⟩ := Int.eq_ofNat_of_zero_le (Int.not_lt.1 hi0)
        by_cases hil : n < t.length
        · obtain ⟨x, hx⟩ : ∃ x, t[n]? = some x := ⟨t[n], by simp [hil]⟩
          have hili : (n : Int) < (t.length : Int) := by omega
          have hgei : ¬ (t.length : Int) ≤ (n : Int) := by omega
          have hge : ¬ t.length ≤ n := by omega
          have he : x.enum = true := by
            cases hxe : x.enum with
            | true => rfl
            | false => simp [isMsgB, sortB, hx, hxe, hd] at hb
          have hen : isEnB t (n : Int) = true := by simp [isEnB, sortB, hx, he, hd]
          obtain ⟨n', x', hnn, hx', _, hm⟩ := isEn_get hen
          have hxx : x' = x := by
            have hnn' : n' = n := by omega
            rw [hnn', hx] at hx'
            injection hx' with h; exact h.symm
          subst hxx
          have hl : x'.syms.length ≤ 2000000 := Nat.le_trans hm.2.1 (by omega)
          have h6 := g_cartoucheref7_Symbol_is t (n : Int) num
          have h7 := g_cartoucheref7_Number_is t (n : Int) name
          rw [if_pos ⟨n, x', rfl, hx, hl⟩, refOn_is hx] at h6 h7
          simp only [encTable] at h6 h7
          rw [onEn_yes hen hx] at h1 h2
          rcases ha : syF x'.syms num with _ | f
          all_goals
            rcases hn : syN x'.syms name with _ | g
            all_goals
              rw [ha] at h1 h6
              rw [hn] at h2 h7
              simp only [orS, orN] at h1 h2 h6 h7
              (refine FC.vc (envTS_ok) F_cartouchelaw7_TableSymbols T_cartouchelaw7_TableSymbols L_cartouchelaw7_TableSymbols ?_; unfold A_cartouchelaw7_TableSymbols; simp only [args0, List.map_cons, List.map_nil, List.zipIdx_cons, List.zipIdx_nil, Nat.reduceAdd])
              (simp -implicitDefEqProofs +contextual (maxSteps := 8000000) only [go_sem, ↓reduceIte, Nat.reduceEqDiff, Nat.reduceAdd, Nat.reduceSub, Nat.reduceLeDiff, Nat.reduceMul, reduceCtorEq, Nat.reduceBEq, Int.reduceLT, Int.reduceLE, Int.reduceNeg, Int.reduceEq, Int.reduceToNat, Nat.reducePow, Nat.reduceLT, Nat.reduceDiv, Nat.reduceMod, encTable, envTS, i_table_Symbol, i_table_Number, i_table_Depths, i_cartouchelaw7_awake, i_cartoucheref7_Is, i_cartoucheref7_Good, i_cartoucheref7_Symbol, i_cartoucheref7_Number, i_cartoucheref7_Depths, g_awake7_is, h1, h2, h3, h4, h5, h6, h7, hi0, hil, hili, hge, hgei])
        · have hili : ¬ (n : Int) < (t.length : Int) := by omega
          have hgei : (t.length : Int) ≤ (n : Int) := by omega
          have hge : t.length ≤ n := by omega
          have hx : t[n]? = none := by simp; omega
          have hen : isEnB t (n : Int) = false := by simp [isEnB, sortB, hx]
          rw [onEn_no hen] at h1 h2
          (refine FC.vc (envTS_ok) F_cartouchelaw7_TableSymbols T_cartouchelaw7_TableSymbols L_cartouchelaw7_TableSymbols ?_; unfold A_cartouchelaw7_TableSymbols; simp only [args0, List.map_cons, List.map_nil, List.zipIdx_cons, List.zipIdx_nil, Nat.reduceAdd])
          (simp -implicitDefEqProofs +contextual (maxSteps := 8000000) only [go_sem, ↓reduceIte, Nat.reduceEqDiff, Nat.reduceAdd, Nat.reduceSub, Nat.reduceLeDiff, Nat.reduceMul, reduceCtorEq, Nat.reduceBEq, Int.reduceLT, Int.reduceLE, Int.reduceNeg, Int.reduceEq, Int.reduceToNat, Nat.reducePow, Nat.reduceLT, Nat.reduceDiv, Nat.reduceMod, encTable, envTS, i_table_Symbol, i_table_Number, i_table_Depths, i_cartouchelaw7_awake, i_cartoucheref7_Is, i_cartoucheref7_Good, i_cartoucheref7_Symbol, i_cartoucheref7_Number, i_cartoucheref7_Depths, g_awake7_is, h1, h2, h3, h4, h5, hi0, hil, hili, hge, hgei])
end Go.Proofs.YtmdkcapbahjipaaDoor.Ag
