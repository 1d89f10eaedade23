/- The law TableFields, walked. -/
import Derived.Test.YtmdkcapbahjipaaDoorTH1
import Derived.Test.YtmdkcapbahjipaaDoorTM6
import Derived.Test.YtmdkcapbahjipaaDoorTM7
set_option linter.unusedVariables false
set_option linter.unusedSimpArgs false
set_option maxRecDepth 100000
set_option maxHeartbeats 16000000
namespace Go.Proofs.YtmdkcapbahjipaaDoor.Ag
attribute [-go_sem] Int.not_lt Int.not_le
noncomputable def envIm : Env := { split := true, fc := [(i_table_Good, g_table_Good), (i_table_sort, g_table_sort)] }
theorem envIm_ok : EnvOk Tryd.prog envIm := (EnvOk.noneS.addF g_table_sort_ok).addF g_table_Good_ok
theorem IsMessage_fc (t : List Ty) (i : Int) (ht : okT t) : FC Tryd.prog i_table_IsMessage [encTable t, .int .i64 i] (· = .bool (isMsgB t i)) := by
  have h1 := g_table_Good_is t
  have h2 := g_table_sort_is t i false
  rw [if_pos ht] at h1
  simp only [encTable] at h1 h2
  unfold isMsgB
  generalize hb : dec (GoodT t) = b at h1
  cases b with
  | false =>
    (refine FC.vc (envIm_ok) F_table_IsMessage T_table_IsMessage L_table_IsMessage ?_; unfold A_table_IsMessage; simp only [args0, List.map_cons, List.map_nil, List.zipIdx_cons, List.zipIdx_nil, Nat.reduceAdd])
    (simp -implicitDefEqProofs +contextual (maxSteps := 8000000) only [go_sem, ↓reduceIte, Nat.reduceEqDiff, Nat.reduceAdd, Nat.reduceSub, Nat.reduceLeDiff, Nat.reduceMul, reduceCtorEq, Nat.reduceBEq, Int.reduceLT, Int.reduceLE, Int.reduceNeg, Int.reduceEq, Int.reduceToNat, Nat.reducePow, Nat.reduceLT, Nat.reduceDiv, Nat.reduceMod, encTable, envIm, i_table_Good, i_table_sort, h1, h2])
    all_goals simp
  | true =>
    (refine FC.vc (envIm_ok) F_table_IsMessage T_table_IsMessage L_table_IsMessage ?_; unfold A_table_IsMessage; simp only [args0, List.map_cons, List.map_nil, List.zipIdx_cons, List.zipIdx_nil, Nat.reduceAdd])
    (simp -implicitDefEqProofs +contextual (maxSteps := 8000000) only [go_sem, ↓reduceIte, Nat.reduceEqDiff, Nat.reduceAdd, Nat.reduceSub, Nat.reduceLeDiff, Nat.reduceMul, reduceCtorEq, Nat.reduceBEq, Int.reduceLT, Int.reduceLE, Int.reduceNeg, Int.reduceEq, Int.reduceToNat, Nat.reducePow, Nat.reduceLT, Nat.reduceDiv, Nat.reduceMod, encTable, envIm, i_table_Good, i_table_sort, h1, h2])
    all_goals simp
noncomputable def envIs : Env := { split := true, fc := [(i_cartoucheref7_Good, g_cartoucheref7_Good)] }
theorem envIs_ok : EnvOk Tryd.prog envIs := EnvOk.noneS.addF g_cartoucheref7_Good_ok
theorem ref7_Is_fc (t : List Ty) (i : Int) (ht : okT t) : FC Tryd.prog i_cartoucheref7_Is [encTable t, .int .i64 i] (· = .bool (isMsgB t i)) := by
  have h1 := g_cartoucheref7_Good_is t
  rw [if_pos ht] at h1
  simp only [encTable] at h1
  unfold isMsgB sortB
  generalize hb : dec (GoodT t) = b at h1
  cases b with
  | false =>
    (refine FC.vc (envIs_ok) F_cartoucheref7_Is T_cartoucheref7_Is L_cartoucheref7_Is ?_; unfold A_cartoucheref7_Is; simp only [args0, List.map_cons, List.map_nil, List.zipIdx_cons, List.zipIdx_nil, Nat.reduceAdd])
    (simp -implicitDefEqProofs +contextual (maxSteps := 8000000) only [go_sem, ↓reduceIte, Nat.reduceEqDiff, Nat.reduceAdd, Nat.reduceSub, Nat.reduceLeDiff, Nat.reduceMul, reduceCtorEq, Nat.reduceBEq, Int.reduceLT, Int.reduceLE, Int.reduceNeg, Int.reduceEq, Int.reduceToNat, Nat.reducePow, Nat.reduceLT, Nat.reduceDiv, Nat.reduceMod, encTable, envIs, i_cartoucheref7_Good, h1])
    all_goals simp
  | true =>
    by_cases h0 : 0 ≤ i
    · by_cases hl : i < t.length
      · obtain ⟨x, hx⟩ : ∃ x, t[i.toNat]? = some x := ⟨t[i.toNat]'(by omega), by rw [List.getElem?_eq_getElem]⟩
        have hm := get_map (f := encTy) hx
        simp only [encTy] at hm
        (refine FC.vc (envIs_ok) F_cartoucheref7_Is T_cartoucheref7_Is L_cartoucheref7_Is ?_; unfold A_cartoucheref7_Is; simp only [args0, List.map_cons, List.map_nil, List.zipIdx_cons, List.zipIdx_nil, Nat.reduceAdd])
        (simp -implicitDefEqProofs +contextual (maxSteps := 8000000) only [go_sem, ↓reduceIte, Nat.reduceEqDiff, Nat.reduceAdd, Nat.reduceSub, Nat.reduceLeDiff, Nat.reduceMul, reduceCtorEq, Nat.reduceBEq, Int.reduceLT, Int.reduceLE, Int.reduceNeg, Int.reduceEq, Int.reduceToNat, Nat.reducePow, Nat.reduceLT, Nat.reduceDiv, Nat.reduceMod, encTable, envIs, i_cartoucheref7_Good, h1, h0, hl, hm, forall_eq'])
        all_goals simp [hx, h0]
      · have hx : t[i.toNat]? = none := by simp; omega
        (refine FC.vc (envIs_ok) F_cartoucheref7_Is T_cartoucheref7_Is L_cartoucheref7_Is ?_; unfold A_cartoucheref7_Is; simp only [args0, List.map_cons, List.map_nil, List.zipIdx_cons, List.zipIdx_nil, Nat.reduceAdd])
        (simp -implicitDefEqProofs +contextual (maxSteps := 8000000) only [go_sem, ↓reduceIte, Nat.reduceEqDiff, Nat.reduceAdd, Nat.reduceSub, Nat.reduceLeDiff, Nat.reduceMul, reduceCtorEq, Nat.reduceBEq, Int.reduceLT, Int.reduceLE, Int.reduceNeg, Int.reduceEq, Int.reduceToNat, Nat.reducePow, Nat.reduceLT, Nat.reduceDiv, Nat.reduceMod, encTable, envIs, i_cartoucheref7_Good, h1, h0, hl])
        all_goals simp [hx]
    · (refine FC.vc (envIs_ok) F_cartoucheref7_Is T_cartoucheref7_Is L_cartoucheref7_Is ?_; unfold A_cartoucheref7_Is; simp only [args0, List.map_cons, List.map_nil, List.zipIdx_cons, List.zipIdx_nil, Nat.reduceAdd])
      (simp -implicitDefEqProofs +contextual (maxSteps := 8000000) only [go_sem, ↓reduceIte, Nat.reduceEqDiff, Nat.reduceAdd, Nat.reduceSub, Nat.reduceLeDiff, Nat.reduceMul, reduceCtorEq, Nat.reduceBEq, Int.reduceLT, Int.reduceLE, Int.reduceNeg, Int.reduceEq, Int.reduceToNat, Nat.reducePow, Nat.reduceLT, Nat.reduceDiv, Nat.reduceMod, encTable, envIs, i_cartoucheref7_Good, h1, h0])
      all_goals simp
end Go.Proofs.YtmdkcapbahjipaaDoor.Ag
namespace Go.Proofs.YtmdkcapbahjipaaDoor.Ag
open Classical
noncomputable def g_table_IsMessage : List IV → Option IV
  | [t_, .int .i64 i] => (match decTable t_ with
    | some t => if okT t then some (.bool (isMsgB t i)) else none
    | none => none)
  | _ => none
theorem g_table_IsMessage_is (t : List Ty) (i : Int) : g_table_IsMessage [encTable t, .int .i64 i] = if okT t then some (.bool (isMsgB t i)) else none := by
  simp only [g_table_IsMessage, decTable_enc]
theorem g_table_IsMessage_ok : ∀ xs r, g_table_IsMessage xs = some r → FC Tryd.prog i_table_IsMessage xs (· = r) := by
  intro xs r h
  unfold g_table_IsMessage at h
  split at h
  · rename_i t_ i
    split at h
    · rename_i t ht
      split at h
      · rename_i hpre
        injection h with h; subst h
        have := decTable_enc_inv ht; subst this
        exact IsMessage_fc t i hpre
      · cases h
    · cases h
  · cases h

noncomputable def g_cartoucheref7_Is : List IV → Option IV
  | [t_, .int .i64 i] => (match decTable t_ with
    | some t => if okT t then some (.bool (isMsgB t i)) else none
    | none => none)
  | _ => none
theorem g_cartoucheref7_Is_is (t : List Ty) (i : Int) : g_cartoucheref7_Is [encTable t, .int .i64 i] = if okT t then some (.bool (isMsgB t i)) else none := by
  simp only [g_cartoucheref7_Is, decTable_enc]
theorem g_cartoucheref7_Is_ok : ∀ xs r, g_cartoucheref7_Is xs = some r → FC Tryd.prog i_cartoucheref7_Is xs (· = r) := by
  intro xs r h
  unfold g_cartoucheref7_Is at h
  split at h
  · rename_i t_ i
    split at h
    · rename_i t ht
      split at h
      · rename_i hpre
        injection h with h; subst h
        have := decTable_enc_inv ht; subst this
        exact ref7_Is_fc t i hpre
      · cases h
    · cases h
  · cases h

end Go.Proofs.YtmdkcapbahjipaaDoor.Ag
namespace Go.Proofs.YtmdkcapbahjipaaDoor.Ag
noncomputable def envTf : Env := { split := true, fc := [(i_table_IsMessage, g_table_IsMessage), (i_table_At, g_table_At), (i_table_How, g_table_How)] }
theorem envTf_ok : EnvOk Tryd.prog envTf := ((EnvOk.noneS.addF g_table_How_ok).addF g_table_At_ok).addF g_table_IsMessage_ok
theorem table_Field_fc (t : List Ty) (i num : Int) (ht : okT t) : FC Tryd.prog i_table_Field [encTable t, .int .i64 i, .int .i64 num] (· = fieldP t i num) := by
  have h1 := g_table_IsMessage_is t i
  rw [if_pos ht] at h1
  simp only [encTable] at h1
  unfold fieldP
  cases hb : isMsgB t i with
  | false =>
    rw [onMsg_no hb]
    rw [hb] at h1
    unfold zft
    (refine FC.vc (envTf_ok) F_table_Field T_table_Field L_table_Field ?_; unfold A_table_Field; simp only [args0, List.map_cons, List.map_nil, List.zipIdx_cons, List.zipIdx_nil, Nat.reduceAdd])
    (simp -implicitDefEqProofs +contextual (maxSteps := 8000000) only [go_sem, ↓reduceIte, Nat.reduceEqDiff, Nat.reduceAdd, Nat.reduceSub, Nat.reduceLeDiff, Nat.reduceMul, reduceCtorEq, Nat.reduceBEq, Int.reduceLT, Int.reduceLE, Int.reduceNeg, Int.reduceEq, Int.reduceToNat, Nat.reducePow, Nat.reduceLT, Nat.reduceDiv, Nat.reduceMod, encTable, encFT, envTf, i_table_IsMessage, i_table_At, i_table_How, h1])
  | true =>
    obtain ⟨n, x, rfl, hx, he, hm⟩ := isMsg_get hb
    rw [onMsg_yes hb hx]
    rw [hb] at h1
    have hl : x.fields.length ≤ 2000000 := Nat.le_trans hm.2.1 (by omega)
    have h2 := g_table_At_is x num
    rw [if_pos ⟨msg_rising hm, hl⟩] at h2
    simp only [encTy, he] at h2
    have hmx := get_map (f := encTy) hx
    simp only [encTy, he] at hmx
    have hil := (List.getElem?_eq_some_iff.1 hx).1
    have hili : (n : Int) < (t.length : Int) := by omega
    cases ha : atF x.fields num with
    | none =>
      rw [ha] at h2
      simp only [encAt, encFT, zft] at h2
      simp only [orF, encFT, zft]
      (refine FC.vc (envTf_ok) F_table_Field T_table_Field L_table_Field ?_; unfold A_table_Field; simp only [args0, List.map_cons, List.map_nil, List.zipIdx_cons, List.zipIdx_nil, Nat.reduceAdd])
      (simp -implicitDefEqProofs +contextual (maxSteps := 8000000) only [go_sem, ↓reduceIte, Nat.reduceEqDiff, Nat.reduceAdd, Nat.reduceSub, Nat.reduceLeDiff, Nat.reduceMul, reduceCtorEq, Nat.reduceBEq, Int.reduceLT, Int.reduceLE, Int.reduceNeg, Int.reduceEq, Int.reduceToNat, Nat.reducePow, Nat.reduceLT, Nat.reduceDiv, Nat.reduceMod, encTable, envTf, i_table_IsMessage, i_table_At, i_table_How, h1, h2, hmx, hil, hili, forall_eq'])
    | some f =>
      rw [ha] at h2
      simp only [encAt, encFT] at h2
      simp only [orF, encFT]
      (refine FC.vc (envTf_ok) F_table_Field T_table_Field L_table_Field ?_; unfold A_table_Field; simp only [args0, List.map_cons, List.map_nil, List.zipIdx_cons, List.zipIdx_nil, Nat.reduceAdd])
      (simp -implicitDefEqProofs +contextual (maxSteps := 8000000) only [go_sem, ↓reduceIte, Nat.reduceEqDiff, Nat.reduceAdd, Nat.reduceSub, Nat.reduceLeDiff, Nat.reduceMul, reduceCtorEq, Nat.reduceBEq, Int.reduceLT, Int.reduceLE, Int.reduceNeg, Int.reduceEq, Int.reduceToNat, Nat.reducePow, Nat.reduceLT, Nat.reduceDiv, Nat.reduceMod, encTable, envTf, i_table_IsMessage, i_table_At, i_table_How, h1, h2, hmx, hil, hili, forall_eq'])
theorem table_Takes_fc (t : List Ty) (i num k : Int) (ht : okT t) : FC Tryd.prog i_table_Takes [encTable t, .int .i64 i, .int .i64 num, .int .i64 k] (· = takesP t i num k) := by
  have h1 := g_table_IsMessage_is t i
  rw [if_pos ht] at h1
  simp only [encTable] at h1
  unfold takesP
  cases hb : isMsgB t i with
  | false =>
    rw [onMsg_no hb]
    rw [hb] at h1
    (refine FC.vc (envTf_ok) F_table_Takes T_table_Takes L_table_Takes ?_; unfold A_table_Takes; simp only [args0, List.map_cons, List.map_nil, List.zipIdx_cons, List.zipIdx_nil, Nat.reduceAdd])
    (simp -implicitDefEqProofs +contextual (maxSteps := 8000000) only [go_sem, ↓reduceIte, Nat.reduceEqDiff, Nat.reduceAdd, Nat.reduceSub, Nat.reduceLeDiff, Nat.reduceMul, reduceCtorEq, Nat.reduceBEq, Int.reduceLT, Int.reduceLE, Int.reduceNeg, Int.reduceEq, Int.reduceToNat, Nat.reducePow, Nat.reduceLT, Nat.reduceDiv, Nat.reduceMod, encTable, encFT, envTf, i_table_IsMessage, i_table_At, i_table_How, h1])
  | true =>
    obtain ⟨n, x, rfl, hx, he, hm⟩ := isMsg_get hb
    rw [onMsg_yes hb hx]
    rw [hb] at h1
    have hl : x.fields.length ≤ 2000000 := Nat.le_trans hm.2.1 (by omega)
    have h2 := g_table_At_is x num
    rw [if_pos ⟨msg_rising hm, hl⟩] at h2
    simp only [encTy, he] at h2
    have hmx := get_map (f := encTy) hx
    simp only [encTy, he] at hmx
    have hil := (List.getElem?_eq_some_iff.1 hx).1
    have hili : (n : Int) < (t.length : Int) := by omega
    cases ha : atF x.fields num with
    | none =>
      rw [ha] at h2
      simp only [encAt, encFT, zft] at h2
      (refine FC.vc (envTf_ok) F_table_Takes T_table_Takes L_table_Takes ?_; unfold A_table_Takes; simp only [args0, List.map_cons, List.map_nil, List.zipIdx_cons, List.zipIdx_nil, Nat.reduceAdd])
      (simp -implicitDefEqProofs +contextual (maxSteps := 8000000) only [go_sem, ↓reduceIte, Nat.reduceEqDiff, Nat.reduceAdd, Nat.reduceSub, Nat.reduceLeDiff, Nat.reduceMul, reduceCtorEq, Nat.reduceBEq, Int.reduceLT, Int.reduceLE, Int.reduceNeg, Int.reduceEq, Int.reduceToNat, Nat.reducePow, Nat.reduceLT, Nat.reduceDiv, Nat.reduceMod, encTable, envTf, i_table_IsMessage, i_table_At, i_table_How, h1, h2, hmx, hil, hili, forall_eq'])
    | some f =>
      rw [ha] at h2
      have h3 := g_table_How_is f k
      simp only [encFT] at h3
      simp only [encAt, encFT] at h2
      (refine FC.vc (envTf_ok) F_table_Takes T_table_Takes L_table_Takes ?_; unfold A_table_Takes; simp only [args0, List.map_cons, List.map_nil, List.zipIdx_cons, List.zipIdx_nil, Nat.reduceAdd])
      (simp -implicitDefEqProofs +contextual (maxSteps := 8000000) only [go_sem, ↓reduceIte, Nat.reduceEqDiff, Nat.reduceAdd, Nat.reduceSub, Nat.reduceLeDiff, Nat.reduceMul, reduceCtorEq, Nat.reduceBEq, Int.reduceLT, Int.reduceLE, Int.reduceNeg, Int.reduceEq, Int.reduceToNat, Nat.reducePow, Nat.reduceLT, Nat.reduceDiv, Nat.reduceMod, encTable, envTf, i_table_IsMessage, i_table_At, i_table_How, h1, h2, h3, hmx, hil, hili, forall_eq'])
def TnI (x : Ty) (name : ByteArray) (n : Nat) (st : St) : Prop := ∃ i v : Nat, lk st.ρ 2 = some (.iv (.str name)) ∧ lk st.ρ 6 = some (.loc 0 v 0) ∧ lk st.ρ 20 = some (.iv (.slice (x.fields.map encFT))) ∧ lk st.ρ 21 = some (.iv (.int .i64 (x.fields.length : Int))) ∧ lk st.ρ 22 = some (.iv (.int .i64 (i : Int))) ∧
  lk st.σ 0 = some (v, zbox) ∧ i ≤ x.fields.length ∧ x.fields.length < i + n ∧ ∀ z ∈ x.fields.take i, decide (z.name = name) = false
theorem table_Named_fc (t : List Ty) (i : Int) (name : ByteArray) (ht : okT t) : FC Tryd.prog i_table_Named [encTable t, .int .i64 i, .str name] (· = namedP t i name) := by
  have h1 := g_table_IsMessage_is t i
  rw [if_pos ht] at h1
  simp only [encTable] at h1
  unfold namedP
  cases hb : isMsgB t i with
  | false =>
    rw [onMsg_no hb]
    rw [hb] at h1
    unfold zft
    (refine FC.vc (envTf_ok) F_table_Named T_table_Named L_table_Named ?_; unfold A_table_Named; simp only [args0, List.map_cons, List.map_nil, List.zipIdx_cons, List.zipIdx_nil, Nat.reduceAdd])
    (simp -implicitDefEqProofs +contextual (maxSteps := 8000000) only [go_sem, ↓reduceIte, Nat.reduceEqDiff, Nat.reduceAdd, Nat.reduceSub, Nat.reduceLeDiff, Nat.reduceMul, reduceCtorEq, Nat.reduceBEq, Int.reduceLT, Int.reduceLE, Int.reduceNeg, Int.reduceEq, Int.reduceToNat, Nat.reducePow, Nat.reduceLT, Nat.reduceDiv, Nat.reduceMod, encTable, encFT, envTf, i_table_IsMessage, i_table_At, i_table_How, h1])
  | true =>
    obtain ⟨n, x, rfl, hx, he, hm⟩ := isMsg_get hb
    rw [onMsg_yes hb hx]
    rw [hb] at h1
    have hl : x.fields.length ≤ 2000000 := Nat.le_trans hm.2.1 (by omega)
    have hmx := get_map (f := encTy) hx
    simp only [encTy, he] at hmx
    have hil := (List.getElem?_eq_some_iff.1 hx).1
    have hili : (n : Int) < (t.length : Int) := by omega
    (refine FC.vc (envTf_ok) F_table_Named T_table_Named L_table_Named ?_; unfold A_table_Named; simp only [args0, List.map_cons, List.map_nil, List.zipIdx_cons, List.zipIdx_nil, Nat.reduceAdd])
    (simp -implicitDefEqProofs +contextual (maxSteps := 8000000) only [go_sem, ↓reduceIte, Nat.reduceEqDiff, Nat.reduceAdd, Nat.reduceSub, Nat.reduceLeDiff, Nat.reduceMul, reduceCtorEq, Nat.reduceBEq, Int.reduceLT, Int.reduceLE, Int.reduceNeg, Int.reduceEq, Int.reduceToNat, Nat.reducePow, Nat.reduceLT, Nat.reduceDiv, Nat.reduceMod, encTable, envTf, i_table_IsMessage, i_table_At, i_table_How, h1, hmx, hil, hili, forall_eq'])
    refine vc_loop (TnI x name) (x.fields.length + 1) ⟨0, 0, by simp [lk], by simp [lk], by simp [lk], by simp [lk], by simp [lk], by simp [lk, upd, zbox], by omega, by omega, by simp⟩ ?_
    rintro m st ⟨j, v, h2, h6, h20, h21, h22, k0, g1, g2, g3⟩
    unfold zbox at k0
    by_cases hj : j < x.fields.length
    · obtain ⟨f, hf⟩ : ∃ f, x.fields[j]? = some f := ⟨x.fields[j], by simp [hj]⟩
      have hmf := get_map (f := encFT) hf
      simp only [encFT] at hmf
      have hw := wrap1 hj (by omega)
      have hlt : (j : Int) < (x.fields.length : Int) := by omega
      by_cases e1 : f.name = name
      · have hs : nmF x.fields name = some f := find_at g3 hf (by simpa using e1)
        rw [hs]
        unfold orF
        rcases hz : lk st.σ 1 with _ | ⟨v1, it1⟩
        all_goals
          (simp -implicitDefEqProofs +contextual (maxSteps := 8000000) only [go_sem, ↓reduceIte, Nat.reduceEqDiff, Nat.reduceAdd, Nat.reduceSub, Nat.reduceLeDiff, Nat.reduceMul, reduceCtorEq, Nat.reduceBEq, Int.reduceLT, Int.reduceLE, Int.reduceNeg, Int.reduceEq, Int.reduceToNat, Nat.reducePow, Nat.reduceLT, Nat.reduceDiv, Nat.reduceMod, encFT, envTf, h2, h6, h20, h21, h22, k0, hj, hlt, hmf, hw, hz, e1, forall_eq'])
      · rcases hz : lk st.σ 1 with _ | ⟨v1, it1⟩
        all_goals
          (simp -implicitDefEqProofs +contextual (maxSteps := 8000000) only [go_sem, ↓reduceIte, Nat.reduceEqDiff, Nat.reduceAdd, Nat.reduceSub, Nat.reduceLeDiff, Nat.reduceMul, reduceCtorEq, Nat.reduceBEq, Int.reduceLT, Int.reduceLE, Int.reduceNeg, Int.reduceEq, Int.reduceToNat, Nat.reducePow, Nat.reduceLT, Nat.reduceDiv, Nat.reduceMod, encFT, envTf, h2, h6, h20, h21, h22, k0, hj, hlt, hmf, hw, hz, e1, forall_eq'])
          exact ⟨m - 1, by omega, j + 1, v, by simp [lk, h2], by simp [lk, h6], by simp [lk, h20], by simp [lk, h21], by simp [lk], by simp [lk_upd, k0, zbox], by omega, by omega, take_all2 g3 hf (by simpa using e1)⟩
    · have hlt : ¬ (j : Int) < (x.fields.length : Int) := by omega
      rw [List.take_of_length_le (by omega)] at g3
      have hs : nmF x.fields name = none := find_no g3
      rw [hs]
      unfold orF zft
      (simp -implicitDefEqProofs +contextual (maxSteps := 8000000) only [go_sem, ↓reduceIte, Nat.reduceEqDiff, Nat.reduceAdd, Nat.reduceSub, Nat.reduceLeDiff, Nat.reduceMul, reduceCtorEq, Nat.reduceBEq, Int.reduceLT, Int.reduceLE, Int.reduceNeg, Int.reduceEq, Int.reduceToNat, Nat.reducePow, Nat.reduceLT, Nat.reduceDiv, Nat.reduceMod, encFT, envTf, h2, h6, h20, h21, h22, k0, hj, hlt])
def howR (f : FT) (k : Int) : Int := if wireR f = k then 1 else if rowF f = true ∧ k = 2 then 2 else 0
noncomputable def envTr : Env := { split := true, fc := [(i_cartoucheref7_Field, g_cartoucheref7_Field), (i_cartoucheref7_Wire, g_cartoucheref7_Wire), (i_cartoucheref3_Numeric, g_cartoucheref3_Numeric)] }
theorem envTr_ok : EnvOk Tryd.prog envTr := ((EnvOk.noneS.addF g_cartoucheref3_Numeric_ok).addF g_cartoucheref7_Wire_ok).addF g_cartoucheref7_Field_ok
def takesR (o : Option FT) (k : Int) : IV := match o with
  | some f => .int .i64 (howR f k)
  | none => .int .i64 0
theorem ref7_Takes_fc (t : List Ty) (i : Nat) (x : Ty) (num k : Int) (hx : t[i]? = some x) (hl : x.fields.length ≤ 2000000) : FC Tryd.prog i_cartoucheref7_Takes [encTable t, .int .i64 (i : Int), .int .i64 num, .int .i64 k] (· = takesR (atF x.fields num) k) := by
  have h1 := g_cartoucheref7_Field_is t i num
  rw [if_pos ⟨i, x, rfl, hx, hl⟩, refOn_is hx] at h1
  simp only [encTable] at h1
  cases ha : atF x.fields num with
  | none =>
    rw [ha] at h1
    simp only [orF, encFT, zft] at h1
    unfold takesR
    (refine FC.vc (envTr_ok) F_cartoucheref7_Takes T_cartoucheref7_Takes L_cartoucheref7_Takes ?_; unfold A_cartoucheref7_Takes; simp only [args0, List.map_cons, List.map_nil, List.zipIdx_cons, List.zipIdx_nil, Nat.reduceAdd])
    (simp -implicitDefEqProofs +contextual (maxSteps := 8000000) only [go_sem, ↓reduceIte, Nat.reduceEqDiff, Nat.reduceAdd, Nat.reduceSub, Nat.reduceLeDiff, Nat.reduceMul, reduceCtorEq, Nat.reduceBEq, Int.reduceLT, Int.reduceLE, Int.reduceNeg, Int.reduceEq, Int.reduceToNat, Nat.reducePow, Nat.reduceLT, Nat.reduceDiv, Nat.reduceMod, encTable, envTr, i_cartoucheref7_Field, i_cartoucheref7_Wire, i_cartoucheref3_Numeric, h1])
  | some f =>
    rw [ha] at h1
    have h2 := g_cartoucheref7_Wire_is f
    have h3 := g_cartoucheref3_Numeric_is f.kind
    simp only [orF, encFT] at h1 h2
    unfold takesR howR rowF
    by_cases e1 : wireR f = k
    · (refine FC.vc (envTr_ok) F_cartoucheref7_Takes T_cartoucheref7_Takes L_cartoucheref7_Takes ?_; unfold A_cartoucheref7_Takes; simp only [args0, List.map_cons, List.map_nil, List.zipIdx_cons, List.zipIdx_nil, Nat.reduceAdd])
      (simp -implicitDefEqProofs +contextual (maxSteps := 8000000) only [go_sem, ↓reduceIte, Nat.reduceEqDiff, Nat.reduceAdd, Nat.reduceSub, Nat.reduceLeDiff, Nat.reduceMul, reduceCtorEq, Nat.reduceBEq, Int.reduceLT, Int.reduceLE, Int.reduceNeg, Int.reduceEq, Int.reduceToNat, Nat.reducePow, Nat.reduceLT, Nat.reduceDiv, Nat.reduceMod, encTable, envTr, i_cartoucheref7_Field, i_cartoucheref7_Wire, i_cartoucheref3_Numeric, h1, h2, h3, e1])
    · have tail : ∀ b, numericN f.kind = b → FC Tryd.prog i_cartoucheref7_Takes [encTable t, .int .i64 (i : Int), .int .i64 num, .int .i64 k] (· = .int .i64 (if wireR f = k then 1 else if (decide (f.label = 2 ∨ f.label = 3) && b) = true ∧ k = 2 then 2 else 0)) := by
        intro b hn
        rw [hn] at h3
        by_cases e2 : f.label = 2
        · simp only [e2] at h1 h2 ⊢
          by_cases e4 : k = 2
          · subst e4
            cases b
            all_goals
              (refine FC.vc (envTr_ok) F_cartoucheref7_Takes T_cartoucheref7_Takes L_cartoucheref7_Takes ?_; unfold A_cartoucheref7_Takes; simp only [args0, List.map_cons, List.map_nil, List.zipIdx_cons, List.zipIdx_nil, Nat.reduceAdd])
              (simp -implicitDefEqProofs +contextual (maxSteps := 8000000) only [go_sem, ↓reduceIte, Nat.reduceEqDiff, Nat.reduceAdd, Nat.reduceSub, Nat.reduceLeDiff, Nat.reduceMul, reduceCtorEq, Nat.reduceBEq, Int.reduceLT, Int.reduceLE, Int.reduceNeg, Int.reduceEq, Int.reduceToNat, Nat.reducePow, Nat.reduceLT, Nat.reduceDiv, Nat.reduceMod, encTable, envTr, i_cartoucheref7_Field, i_cartoucheref7_Wire, i_cartoucheref3_Numeric, h1, h2, h3, e1])
              all_goals grind
          · cases b
            all_goals
              (refine FC.vc (envTr_ok) F_cartoucheref7_Takes T_cartoucheref7_Takes L_cartoucheref7_Takes ?_; unfold A_cartoucheref7_Takes; simp only [args0, List.map_cons, List.map_nil, List.zipIdx_cons, List.zipIdx_nil, Nat.reduceAdd])
              (simp -implicitDefEqProofs +contextual (maxSteps := 8000000) only [go_sem, ↓reduceIte, Nat.reduceEqDiff, Nat.reduceAdd, Nat.reduceSub, Nat.reduceLeDiff, Nat.reduceMul, reduceCtorEq, Nat.reduceBEq, Int.reduceLT, Int.reduceLE, Int.reduceNeg, Int.reduceEq, Int.reduceToNat, Nat.reducePow, Nat.reduceLT, Nat.reduceDiv, Nat.reduceMod, encTable, envTr, i_cartoucheref7_Field, i_cartoucheref7_Wire, i_cartoucheref3_Numeric, h1, h2, h3, e1, e4])
              all_goals grind
        · by_cases e3 : f.label = 3
          · simp only [e3] at h1 h2 ⊢
            by_cases e4 : k = 2
            · subst e4
              cases b
              all_goals
                (refine FC.vc (envTr_ok) F_cartoucheref7_Takes T_cartoucheref7_Takes L_cartoucheref7_Takes ?_; unfold A_cartoucheref7_Takes; simp only [args0, List.map_cons, List.map_nil, List.zipIdx_cons, List.zipIdx_nil, Nat.reduceAdd])
                (simp -implicitDefEqProofs +contextual (maxSteps := 8000000) only [go_sem, ↓reduceIte, Nat.reduceEqDiff, Nat.reduceAdd, Nat.reduceSub, Nat.reduceLeDiff, Nat.reduceMul, reduceCtorEq, Nat.reduceBEq, Int.reduceLT, Int.reduceLE, Int.reduceNeg, Int.reduceEq, Int.reduceToNat, Nat.reducePow, Nat.reduceLT, Nat.reduceDiv, Nat.reduceMod, encTable, envTr, i_cartoucheref7_Field, i_cartoucheref7_Wire, i_cartoucheref3_Numeric, h1, h2, h3, e1])
                all_goals grind
            · cases b
              all_goals
                (refine FC.vc (envTr_ok) F_cartoucheref7_Takes T_cartoucheref7_Takes L_cartoucheref7_Takes ?_; unfold A_cartoucheref7_Takes; simp only [args0, List.map_cons, List.map_nil, List.zipIdx_cons, List.zipIdx_nil, Nat.reduceAdd])
                (simp -implicitDefEqProofs +contextual (maxSteps := 8000000) only [go_sem, ↓reduceIte, Nat.reduceEqDiff, Nat.reduceAdd, Nat.reduceSub, Nat.reduceLeDiff, Nat.reduceMul, reduceCtorEq, Nat.reduceBEq, Int.reduceLT, Int.reduceLE, Int.reduceNeg, Int.reduceEq, Int.reduceToNat, Nat.reducePow, Nat.reduceLT, Nat.reduceDiv, Nat.reduceMod, encTable, envTr, i_cartoucheref7_Field, i_cartoucheref7_Wire, i_cartoucheref3_Numeric, h1, h2, h3, e1, e4])
                all_goals grind
          · (refine FC.vc (envTr_ok) F_cartoucheref7_Takes T_cartoucheref7_Takes L_cartoucheref7_Takes ?_; unfold A_cartoucheref7_Takes; simp only [args0, List.map_cons, List.map_nil, List.zipIdx_cons, List.zipIdx_nil, Nat.reduceAdd])
            (simp -implicitDefEqProofs +contextual (maxSteps := 8000000) only [go_sem, ↓reduceIte, Nat.reduceEqDiff, Nat.reduceAdd, Nat.reduceSub, Nat.reduceLeDiff, Nat.reduceMul, reduceCtorEq, Nat.reduceBEq, Int.reduceLT, Int.reduceLE, Int.reduceNeg, Int.reduceEq, Int.reduceToNat, Nat.reducePow, Nat.reduceLT, Nat.reduceDiv, Nat.reduceMod, encTable, envTr, i_cartoucheref7_Field, i_cartoucheref7_Wire, i_cartoucheref3_Numeric, h1, h2, h3, e1, e2, e3])
            all_goals grind
      exact tail _ rfl
end Go.Proofs.YtmdkcapbahjipaaDoor.Ag
namespace Go.Proofs.YtmdkcapbahjipaaDoor.Ag
open Classical
noncomputable def g_table_Field : List IV → Option IV
  | [t_, .int .i64 i, .int .i64 num] => (match decTable t_ with
    | some t => if okT t then some (fieldP t i num) else none
    | none => none)
  | _ => none
theorem g_table_Field_is (t : List Ty) (i : Int) (num : Int) : g_table_Field [encTable t, .int .i64 i, .int .i64 num] = if okT t then some (fieldP t i num) else none := by
  simp only [g_table_Field, decTable_enc]
theorem g_table_Field_ok : ∀ xs r, g_table_Field xs = some r → FC Tryd.prog i_table_Field xs (· = r) := by
  intro xs r h
  unfold g_table_Field at h
  split at h
  · rename_i t_ i num
    split at h
    · rename_i t ht
      split at h
      · rename_i hpre
        injection h with h; subst h
        have := decTable_enc_inv ht; subst this
        exact table_Field_fc t i num hpre
      · cases h
    · cases h
  · cases h

noncomputable def g_table_Named : List IV → Option IV
  | [t_, .int .i64 i, .str name] => (match decTable t_ with
    | some t => if okT t then some (namedP t i name) else none
    | none => none)
  | _ => none
theorem g_table_Named_is (t : List Ty) (i : Int) (name : ByteArray) : g_table_Named [encTable t, .int .i64 i, .str name] = if okT t then some (namedP t i name) else none := by
  simp only [g_table_Named, decTable_enc]
theorem g_table_Named_ok : ∀ xs r, g_table_Named xs = some r → FC Tryd.prog i_table_Named xs (· = r) := by
  intro xs r h
  unfold g_table_Named at h
  split at h
  · rename_i t_ i name
    split at h
    · rename_i t ht
      split at h
      · rename_i hpre
        injection h with h; subst h
        have := decTable_enc_inv ht; subst this
        exact table_Named_fc t i name hpre
      · cases h
    · cases h
  · cases h

noncomputable def g_table_Takes : List IV → Option IV
  | [t_, .int .i64 i, .int .i64 num, .int .i64 k] => (match decTable t_ with
    | some t => if okT t then some (takesP t i num k) else none
    | none => none)
  | _ => none
theorem g_table_Takes_is (t : List Ty) (i : Int) (num : Int) (k : Int) : g_table_Takes [encTable t, .int .i64 i, .int .i64 num, .int .i64 k] = if okT t then some (takesP t i num k) else none := by
  simp only [g_table_Takes, decTable_enc]
theorem g_table_Takes_ok : ∀ xs r, g_table_Takes xs = some r → FC Tryd.prog i_table_Takes xs (· = r) := by
  intro xs r h
  unfold g_table_Takes at h
  split at h
  · rename_i t_ i num k
    split at h
    · rename_i t ht
      split at h
      · rename_i hpre
        injection h with h; subst h
        have := decTable_enc_inv ht; subst this
        exact table_Takes_fc t i num k hpre
      · cases h
    · cases h
  · cases h

noncomputable def g_cartoucheref7_Takes : List IV → Option IV
  | [t_, .int .i64 i, .int .i64 num, .int .i64 k] => (match decTable t_ with
    | some t => if RefOn t i then some (refOn t i fun x => takesR (atF x.fields num) k) else none
    | none => none)
  | _ => none
theorem g_cartoucheref7_Takes_is (t : List Ty) (i : Int) (num : Int) (k : Int) : g_cartoucheref7_Takes [encTable t, .int .i64 i, .int .i64 num, .int .i64 k] = if RefOn t i then some (refOn t i fun x => takesR (atF x.fields num) k) else none := by
  simp only [g_cartoucheref7_Takes, decTable_enc]
theorem g_cartoucheref7_Takes_ok : ∀ xs r, g_cartoucheref7_Takes xs = some r → FC Tryd.prog i_cartoucheref7_Takes xs (· = r) := by
  intro xs r h
  unfold g_cartoucheref7_Takes at h
  split at h
  · rename_i t_ i num k
    split at h
    · rename_i t ht
      split at h
      · rename_i hpre
        injection h with h; subst h
        have := decTable_enc_inv ht; subst this
        obtain ⟨n, x, rfl, hx, hl⟩ := hpre
        rw [refOn_is hx]
        exact ref7_Takes_fc t n x num k hx hl
      · cases h
    · cases h
  · cases h

end Go.Proofs.YtmdkcapbahjipaaDoor.Ag
namespace Go.Proofs.YtmdkcapbahjipaaDoor.Ag
noncomputable def envTF : Env := { split := true, fc := [(i_table_Field, g_table_Field), (i_table_Named, g_table_Named), (i_table_Takes, g_table_Takes), (i_cartouchelaw7_awake, g_awake7), (i_cartoucheref7_Is, g_cartoucheref7_Is), (i_cartoucheref7_Field, g_cartoucheref7_Field), (i_cartoucheref7_Named, g_cartoucheref7_Named), (i_cartoucheref7_Takes, g_cartoucheref7_Takes)] }
theorem envTF_ok : EnvOk Tryd.prog envTF := (((((((EnvOk.noneS.addF g_cartoucheref7_Takes_ok).addF g_cartoucheref7_Named_ok).addF g_cartoucheref7_Field_ok).addF g_cartoucheref7_Is_ok).addF g_awake7_ok).addF g_table_Takes_ok).addF g_table_Named_ok).addF g_table_Field_ok
theorem atF_mem {l : List FT} {n : Int} {f : FT} (h : atF l n = some f) : f ∈ l := List.mem_of_find?_eq_some h
theorem howR_is {t : List Ty} {x : Ty} {f : FT} (hm : MsgOk t x) (hf : f ∈ x.fields) (k : Int) : howR f k = howN f k := by
  obtain ⟨i, hi⟩ := List.getElem?_of_mem hf
  have h1 := (hm.2.2.2.2.2.2.1 i f hi).2.2.2.1
  have hk : 1 ≤ f.kind ∧ f.kind ≤ 17 := by
    unfold fieldB at h1
    rw [Bool.and_eq_true] at h1
    have h2 := h1.1
    by_cases e : f.kind = 16 ∨ f.kind = 17
    · omega
    · rw [if_neg e] at h2
      have := of_decide_eq_true h2
      exact this.2
  have hw : wireR f = wireF f := by unfold wireR wireF wireP; rw [if_pos hk, if_pos hk]
  unfold howR howN
  rw [hw]
  grind
theorem tableFields_fc (t : List Ty) (i num : Int) (name : ByteArray) (k : Int) (ht : okT t) : FC Tryd.prog i_cartouchelaw7_TableFields [encTable t, .int .i64 i, .int .i64 num, .str name, .int .i64 k] (· = .bool true) := by
  have h1 := g_table_Field_is t i num
  have h2 := g_table_Named_is t i name
  have h3 := g_table_Takes_is t i num k
  have h4 := g_cartoucheref7_Is_is t i
  rw [if_pos ht] at h1 h2 h3 h4
  simp only [encTable] at h1 h2 h3 h4
  unfold fieldP at h1
  unfold namedP at h2
  unfold takesP at h3
  cases hb : isMsgB t i with
  | false =>
    rw [onMsg_no hb] at h1 h2 h3
    rw [hb] at h4
    simp only [encFT, zft] at h1 h2 h3
    (refine FC.vc (envTF_ok) F_cartouchelaw7_TableFields T_cartouchelaw7_TableFields L_cartouchelaw7_TableFields ?_; unfold A_cartouchelaw7_TableFields; simp only [args0, List.map_cons, List.map_nil, List.zipIdx_cons, List.zipIdx_nil, Nat.reduceAdd])
    (simp -implicitDefEqProofs +contextual (maxSteps := 8000000) only [go_sem, ↓reduceIte, Nat.reduceEqDiff, Nat.reduceAdd, Nat.reduceSub, Nat.reduceLeDiff, Nat.reduceMul, reduceCtorEq, Nat.reduceBEq, Int.reduceLT, Int.reduceLE, Int.reduceNeg, Int.reduceEq, Int.reduceToNat, Nat.reducePow, Nat.reduceLT, Nat.reduceDiv, Nat.reduceMod, encTable, envTF, i_table_Field, i_table_Named, i_table_Takes, i_cartouchelaw7_awake, i_cartoucheref7_Is, i_cartoucheref7_Field, i_cartoucheref7_Named, i_cartoucheref7_Takes, h1, h2, h3, h4, g_awake7_is])
  | true =>
    obtain ⟨n, x, rfl, hx, he, hm⟩ := isMsg_get hb
    rw [onMsg_yes hb hx] at h1 h2 h3
    rw [hb] at h4
    have hl : x.fields.length ≤ 2000000 := Nat.le_trans hm.2.1 (by omega)
    have hr : RefOn t (n : Int) := ⟨n, x, rfl, hx, hl⟩
    have h5 := g_cartoucheref7_Field_is t n num
    have h6 := g_cartoucheref7_Named_is t n name
    have h7 := g_cartoucheref7_Takes_is t n num k
    rw [if_pos hr, refOn_is hx] at h5 h6 h7
    simp only [encTable] at h5 h6 h7
    cases ha : atF x.fields num with
    | none =>
      rw [ha] at h1 h3 h5 h7
      simp only [orF, encFT, zft] at h1 h5
      simp only [takesR] at h3 h7
      cases hn : nmF x.fields name with
      | none =>
        rw [hn] at h2 h6
        simp only [orF, encFT, zft] at h2 h6
        (refine FC.vc (envTF_ok) F_cartouchelaw7_TableFields T_cartouchelaw7_TableFields L_cartouchelaw7_TableFields ?_; unfold A_cartouchelaw7_TableFields; simp only [args0, List.map_cons, List.map_nil, List.zipIdx_cons, List.zipIdx_nil, Nat.reduceAdd])
        (simp -implicitDefEqProofs +contextual (maxSteps := 8000000) only [go_sem, ↓reduceIte, Nat.reduceEqDiff, Nat.reduceAdd, Nat.reduceSub, Nat.reduceLeDiff, Nat.reduceMul, reduceCtorEq, Nat.reduceBEq, Int.reduceLT, Int.reduceLE, Int.reduceNeg, Int.reduceEq, Int.reduceToNat, Nat.reducePow, Nat.reduceLT, Nat.reduceDiv, Nat.reduceMod, encTable, envTF, i_table_Field, i_table_Named, i_table_Takes, i_cartouchelaw7_awake, i_cartoucheref7_Is, i_cartoucheref7_Field, i_cartoucheref7_Named, i_cartoucheref7_Takes, h1, h2, h3, h4, h5, h6, h7, g_awake7_is])
      | some g =>
        rw [hn] at h2 h6
        simp only [orF, encFT] at h2 h6
        (refine FC.vc (envTF_ok) F_cartouchelaw7_TableFields T_cartouchelaw7_TableFields L_cartouchelaw7_TableFields ?_; unfold A_cartouchelaw7_TableFields; simp only [args0, List.map_cons, List.map_nil, List.zipIdx_cons, List.zipIdx_nil, Nat.reduceAdd])
        (simp -implicitDefEqProofs +contextual (maxSteps := 8000000) only [go_sem, ↓reduceIte, Nat.reduceEqDiff, Nat.reduceAdd, Nat.reduceSub, Nat.reduceLeDiff, Nat.reduceMul, reduceCtorEq, Nat.reduceBEq, Int.reduceLT, Int.reduceLE, Int.reduceNeg, Int.reduceEq, Int.reduceToNat, Nat.reducePow, Nat.reduceLT, Nat.reduceDiv, Nat.reduceMod, encTable, envTF, i_table_Field, i_table_Named, i_table_Takes, i_cartouchelaw7_awake, i_cartoucheref7_Is, i_cartoucheref7_Field, i_cartoucheref7_Named, i_cartoucheref7_Takes, h1, h2, h3, h4, h5, h6, h7, g_awake7_is])
    | some f =>
      have hh := howR_is hm (atF_mem ha) k
      rw [ha] at h1 h3 h5 h7
      simp only [orF, encFT] at h1 h5
      simp only [takesR, hh] at h3 h7
      cases hn : nmF x.fields name with
      | none =>
        rw [hn] at h2 h6
        simp only [orF, encFT, zft] at h2 h6
        (refine FC.vc (envTF_ok) F_cartouchelaw7_TableFields T_cartouchelaw7_TableFields L_cartouchelaw7_TableFields ?_; unfold A_cartouchelaw7_TableFields; simp only [args0, List.map_cons, List.map_nil, List.zipIdx_cons, List.zipIdx_nil, Nat.reduceAdd])
        (simp -implicitDefEqProofs +contextual (maxSteps := 8000000) only [go_sem, ↓reduceIte, Nat.reduceEqDiff, Nat.reduceAdd, Nat.reduceSub, Nat.reduceLeDiff, Nat.reduceMul, reduceCtorEq, Nat.reduceBEq, Int.reduceLT, Int.reduceLE, Int.reduceNeg, Int.reduceEq, Int.reduceToNat, Nat.reducePow, Nat.reduceLT, Nat.reduceDiv, Nat.reduceMod, encTable, envTF, i_table_Field, i_table_Named, i_table_Takes, i_cartouchelaw7_awake, i_cartoucheref7_Is, i_cartoucheref7_Field, i_cartoucheref7_Named, i_cartoucheref7_Takes, h1, h2, h3, h4, h5, h6, h7, g_awake7_is])
      | some g =>
        rw [hn] at h2 h6
        simp only [orF, encFT] at h2 h6
        (refine FC.vc (envTF_ok) F_cartouchelaw7_TableFields T_cartouchelaw7_TableFields L_cartouchelaw7_TableFields ?_; unfold A_cartouchelaw7_TableFields; simp only [args0, List.map_cons, List.map_nil, List.zipIdx_cons, List.zipIdx_nil, Nat.reduceAdd])
        (simp -implicitDefEqProofs +contextual (maxSteps := 8000000) only [go_sem, ↓reduceIte, Nat.reduceEqDiff, Nat.reduceAdd, Nat.reduceSub, Nat.reduceLeDiff, Nat.reduceMul, reduceCtorEq, Nat.reduceBEq, Int.reduceLT, Int.reduceLE, Int.reduceNeg, Int.reduceEq, Int.reduceToNat, Nat.reducePow, Nat.reduceLT, Nat.reduceDiv, Nat.reduceMod, encTable, envTF, i_table_Field, i_table_Named, i_table_Takes, i_cartouchelaw7_awake, i_cartoucheref7_Is, i_cartoucheref7_Field, i_cartoucheref7_Named, i_cartoucheref7_Takes, h1, h2, h3, h4, h5, h6, h7, g_awake7_is])
end Go.Proofs.YtmdkcapbahjipaaDoor.Ag
