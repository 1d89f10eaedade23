/- The fresh numbers, of whole tables. -/
import Derived.Test.YtmdkcapbahjipaaDoorTM6
import Derived.Test.YtmdkcapbahjipaaDoorTE1
set_option linter.unusedVariables false
set_option linter.unusedSimpArgs false
set_option maxRecDepth 100000
set_option maxHeartbeats 8000000
namespace Go.Proofs.YtmdkcapbahjipaaDoor.Ag
attribute [-go_sem] Int.not_lt Int.not_le
theorem msg_rising {t : List Ty} {x : Ty} (h : MsgOk t x) : Rising x.fields := by
  have hf := h.2.2.2.2.2.2.1
  have step : ∀ (d i : Nat) (f g : FT), x.fields[i]? = some f → x.fields[i + d + 1]? = some g → f.number < g.number := by
    intro d
    induction d with
    | zero =>
      intro i f g h1 h2
      exact (hf (i + 1) g h2).2.2.2.2 f (by omega) (by simpa using h1)
    | succ d ih =>
      intro i f g h1 h2
      have hlt := (List.getElem?_eq_some_iff.1 h2).1
      obtain ⟨m, hm⟩ : ∃ m, x.fields[i + d + 1]? = some m := ⟨x.fields[i + d + 1]'(by omega), by rw [List.getElem?_eq_getElem]⟩
      have h3 := ih i f m h1 hm
      have h4 := (hf (i + (d + 1) + 1) g h2).2.2.2.2 m (by omega) (by rw [show i + (d + 1) + 1 - 1 = i + d + 1 by omega]; exact hm)
      omega
  intro i j f g hij h1 h2
  obtain ⟨d, rfl⟩ : ∃ d, j = i + d + 1 := ⟨j - i - 1, by omega⟩
  exact step d i f g h1 h2
theorem hasN_at (x : Ty) (n : Int) : hasN x n = (atF x.fields n).isSome := by
  unfold hasN atF
  rw [Bool.eq_iff_iff, List.any_eq_true, List.find?_isSome]
theorem findI_get {t : List Ty} {name : ByteArray} {i : Nat} (h : findI t name = some i) : ∃ x, t[i]? = some x := by
  unfold findI at h
  rw [List.findIdx?_eq_some_iff_getElem] at h
  obtain ⟨h1, _⟩ := h
  exact ⟨t[i], by simp [h1]⟩
def bothF (a b : List Ty) (name : ByteArray) : Option (Ty × Ty × Nat × Nat) := match findI a name, findI b name with
  | some i, some k => match a[i]?, b[k]? with
    | some x, some y => if x.enum = false ∧ y.enum = false then some (x, y, i, k) else none
    | _, _ => none
  | _, _ => none
noncomputable def freshP (a b : List Ty) (name : ByteArray) : IV := if dec (GoodT a) && dec (GoodT b) then (match bothF a b name with
    | some (x, y, _, _) => .tup [.slice ((newF x y.fields).map encI), .int .i64 0]
    | none => .tup [.slice [], .int .i64 20]) else .tup [.slice [], .int .i64 18]
def bothP (a b : List Ty) (name : ByteArray) : IV := match bothF a b name with
  | some (_, _, i, k) => .tup [.int .i64 (i : Int), .int .i64 (k : Int), .bool true]
  | none => .tup [.int .i64 0, .int .i64 0, .bool false]
noncomputable def envEf : Env := { split := true, fc := [(i_table_Good, g_table_Good), (i_table_Find, g_table_Find), (i_table_At, g_table_At)] }
theorem envEf_ok : EnvOk Tryd.prog envEf := ((EnvOk.noneS.addF g_table_At_ok).addF g_table_Find_ok).addF g_table_Good_ok
def EfI (a : List Ty) (x y : Ty) (i : Nat) (n : Nat) (st : St) : Prop := ∃ j v : Nat, lk st.ρ 3 = some (.iv (.ref (encTable a))) ∧ lk st.ρ 8 = some (.iv (.int .i64 (i : Int))) ∧ lk st.ρ 12 = some (.lst 2 v) ∧ lk st.ρ 64 = some (.iv (.slice (y.fields.map encFT))) ∧ lk st.ρ 65 = some (.iv (.int .i64 (y.fields.length : Int))) ∧ lk st.ρ 66 = some (.iv (.int .i64 (j : Int))) ∧
  lk st.σ 2 = some (v, .list 3 1 ((newF x (y.fields.take j)).map encI)) ∧ j ≤ y.fields.length ∧ y.fields.length < j + n
theorem good_msg {t : List Ty} {x : Ty} {i : Nat} (hg : GoodT t) (hx : t[i]? = some x) (he : x.enum = false) : MsgOk t x := (hg.2 i x hx).2.2 he
theorem evolve_Fresh_fc (a b : List Ty) (name : ByteArray) (ha : okT a) (hb : okT b) : FC Tryd.prog i_evolve_Fresh [encTable a, encTable b, .str name] (· = freshP a b name) := by
  have hga := g_table_Good_is a
  have hgb := g_table_Good_is b
  have hfa := g_table_Find_is a name
  have hfb := g_table_Find_is b name
  rw [if_pos ha] at hga hfa
  rw [if_pos hb] at hgb hfb
  simp only [encTable] at hga hgb hfa hfb
  unfold findP at hfa hfb
  unfold freshP
  have za := ha.1
  have zb := hb.1
  generalize h1 : dec (GoodT a) = da at hga hfa ⊢
  generalize h2 : dec (GoodT b) = db at hgb hfb ⊢
  cases da with
  | false =>
    (refine FC.vc (envEf_ok) F_evolve_Fresh T_evolve_Fresh L_evolve_Fresh ?_; unfold A_evolve_Fresh; simp only [args0, List.map_cons, List.map_nil, List.zipIdx_cons, List.zipIdx_nil, Nat.reduceAdd])
    (simp -implicitDefEqProofs +contextual (maxSteps := 8000000) only [go_sem, ↓reduceIte, Nat.reduceEqDiff, Nat.reduceAdd, Nat.reduceSub, Nat.reduceLeDiff, Nat.reduceMul, reduceCtorEq, Nat.reduceBEq, Int.reduceLT, Int.reduceLE, Int.reduceNeg, Int.reduceEq, Int.reduceToNat, Nat.reducePow, Nat.reduceLT, Nat.reduceDiv, Nat.reduceMod, encTable, envEf, i_table_Good, i_table_Find, i_table_At, hga])
  | true =>
  cases db with
  | false =>
    (refine FC.vc (envEf_ok) F_evolve_Fresh T_evolve_Fresh L_evolve_Fresh ?_; unfold A_evolve_Fresh; simp only [args0, List.map_cons, List.map_nil, List.zipIdx_cons, List.zipIdx_nil, Nat.reduceAdd])
    (simp -implicitDefEqProofs +contextual (maxSteps := 8000000) only [go_sem, ↓reduceIte, Nat.reduceEqDiff, Nat.reduceAdd, Nat.reduceSub, Nat.reduceLeDiff, Nat.reduceMul, reduceCtorEq, Nat.reduceBEq, Int.reduceLT, Int.reduceLE, Int.reduceNeg, Int.reduceEq, Int.reduceToNat, Nat.reducePow, Nat.reduceLT, Nat.reduceDiv, Nat.reduceMod, encTable, envEf, i_table_Good, i_table_Find, i_table_At, hga, hgb])
  | true =>
  have gA := dec_iff.1 h1
  have gB := dec_iff.1 h2
  rw [if_pos rfl] at hfa hfb
  cases h3 : findI a name with
  | none =>
    have hbf : bothF a b name = none := by simp [bothF, h3]
    rw [hbf]
    rw [h3] at hfa
    rcases h4 : findI b name with _ | k
    all_goals
      rw [h4] at hfb
      (refine FC.vc (envEf_ok) F_evolve_Fresh T_evolve_Fresh L_evolve_Fresh ?_; unfold A_evolve_Fresh; simp only [args0, List.map_cons, List.map_nil, List.zipIdx_cons, List.zipIdx_nil, Nat.reduceAdd])
      (simp -implicitDefEqProofs +contextual (maxSteps := 8000000) only [go_sem, ↓reduceIte, Nat.reduceEqDiff, Nat.reduceAdd, Nat.reduceSub, Nat.reduceLeDiff, Nat.reduceMul, reduceCtorEq, Nat.reduceBEq, Int.reduceLT, Int.reduceLE, Int.reduceNeg, Int.reduceEq, Int.reduceToNat, Nat.reducePow, Nat.reduceLT, Nat.reduceDiv, Nat.reduceMod, encTable, envEf, i_table_Good, i_table_Find, i_table_At, hga, hgb, hfa, hfb])
  | some i =>
  rw [h3] at hfa
  obtain ⟨x, hx⟩ := findI_get h3
  cases h4 : findI b name with
  | none =>
    have hbf : bothF a b name = none := by simp [bothF, h3, h4]
    rw [hbf]
    rw [h4] at hfb
    (refine FC.vc (envEf_ok) F_evolve_Fresh T_evolve_Fresh L_evolve_Fresh ?_; unfold A_evolve_Fresh; simp only [args0, List.map_cons, List.map_nil, List.zipIdx_cons, List.zipIdx_nil, Nat.reduceAdd])
    (simp -implicitDefEqProofs +contextual (maxSteps := 8000000) only [go_sem, ↓reduceIte, Nat.reduceEqDiff, Nat.reduceAdd, Nat.reduceSub, Nat.reduceLeDiff, Nat.reduceMul, reduceCtorEq, Nat.reduceBEq, Int.reduceLT, Int.reduceLE, Int.reduceNeg, Int.reduceEq, Int.reduceToNat, Nat.reducePow, Nat.reduceLT, Nat.reduceDiv, Nat.reduceMod, encTable, envEf, i_table_Good, i_table_Find, i_table_At, hga, hgb, hfa, hfb])
  | some k =>
  rw [h4] at hfb
  obtain ⟨y, hy⟩ := findI_get h4
  have hmx := get_map (f := encTy) hx
  have hmy := get_map (f := encTy) hy
  have hil := (List.getElem?_eq_some_iff.1 hx).1
  have hkl := (List.getElem?_eq_some_iff.1 hy).1
  have hili : (i : Int) < (a.length : Int) := by omega
  have hkli : (k : Int) < (b.length : Int) := by omega
  simp only [encTy] at hmx hmy
  cases hex : x.enum with
  | true =>
    have hbf : bothF a b name = none := by simp [bothF, h3, h4, hx, hy, hex]
    rw [hbf]
    rw [hex] at hmx
    (refine FC.vc (envEf_ok) F_evolve_Fresh T_evolve_Fresh L_evolve_Fresh ?_; unfold A_evolve_Fresh; simp only [args0, List.map_cons, List.map_nil, List.zipIdx_cons, List.zipIdx_nil, Nat.reduceAdd])
    (simp -implicitDefEqProofs +contextual (maxSteps := 8000000) only [go_sem, ↓reduceIte, Nat.reduceEqDiff, Nat.reduceAdd, Nat.reduceSub, Nat.reduceLeDiff, Nat.reduceMul, reduceCtorEq, Nat.reduceBEq, Int.reduceLT, Int.reduceLE, Int.reduceNeg, Int.reduceEq, Int.reduceToNat, Nat.reducePow, Nat.reduceLT, Nat.reduceDiv, Nat.reduceMod, encTable, envEf, i_table_Good, i_table_Find, i_table_At, hga, hgb, hfa, hfb, hmx, hmy, hil, hkl, hili, hkli, hx, hy, hex, forall_eq'])
  | false =>
  rw [hex] at hmx
  cases hey : y.enum with
  | true =>
    have hbf : bothF a b name = none := by simp [bothF, h3, h4, hx, hy, hex, hey]
    rw [hbf]
    rw [hey] at hmy
    (refine FC.vc (envEf_ok) F_evolve_Fresh T_evolve_Fresh L_evolve_Fresh ?_; unfold A_evolve_Fresh; simp only [args0, List.map_cons, List.map_nil, List.zipIdx_cons, List.zipIdx_nil, Nat.reduceAdd])
    (simp -implicitDefEqProofs +contextual (maxSteps := 8000000) only [go_sem, ↓reduceIte, Nat.reduceEqDiff, Nat.reduceAdd, Nat.reduceSub, Nat.reduceLeDiff, Nat.reduceMul, reduceCtorEq, Nat.reduceBEq, Int.reduceLT, Int.reduceLE, Int.reduceNeg, Int.reduceEq, Int.reduceToNat, Nat.reducePow, Nat.reduceLT, Nat.reduceDiv, Nat.reduceMod, encTable, envEf, i_table_Good, i_table_Find, i_table_At, hga, hgb, hfa, hfb, hmx, hmy, hil, hkl, hili, hkli, hx, hy, hex, hey, forall_eq'])
  | false =>
  have hbf : bothF a b name = some (x, y, i, k) := by simp [bothF, h3, h4, hx, hy, hex, hey]
  rw [hbf]
  rw [hey] at hmy
  have mx := good_msg gA hx hex
  have hris := msg_rising mx
  have hxl : x.fields.length ≤ 2000000 := Nat.le_trans mx.2.1 (by omega)
  have hyl : y.fields.length ≤ 2000000 := Nat.le_trans (good_msg gB hy hey).2.1 (by omega)
  (refine FC.vc (envEf_ok) F_evolve_Fresh T_evolve_Fresh L_evolve_Fresh ?_; unfold A_evolve_Fresh; simp only [args0, List.map_cons, List.map_nil, List.zipIdx_cons, List.zipIdx_nil, Nat.reduceAdd])
  (simp -implicitDefEqProofs +contextual (maxSteps := 8000000) only [go_sem, ↓reduceIte, Nat.reduceEqDiff, Nat.reduceAdd, Nat.reduceSub, Nat.reduceLeDiff, Nat.reduceMul, reduceCtorEq, Nat.reduceBEq, Int.reduceLT, Int.reduceLE, Int.reduceNeg, Int.reduceEq, Int.reduceToNat, Nat.reducePow, Nat.reduceLT, Nat.reduceDiv, Nat.reduceMod, encTable, envEf, i_table_Good, i_table_Find, i_table_At, hga, hgb, hfa, hfb, hmx, hmy, hil, hkl, hili, hkli, hx, hy, hex, hey, forall_eq'])
  refine vc_loopN 12 2 3 1 (EfI a x y i) (y.fields.length + 1) (by simp [lk]) ⟨0, 0, by simp [lk, encTable], by simp [lk], by simp [lk, nxt], by simp [lk], by simp [lk], by simp [lk], by simp [lk, upd, nxt, newF], by omega, by omega⟩ ?_
  rintro n st ⟨j, v, h3, h8, h12, h64, h65, h66, k2, g1, g2⟩
  simp only [encTable] at h3
  have hln := newF_len x (y.fields.take j)
  rw [List.length_take] at hln
  by_cases hj : j < y.fields.length
  · obtain ⟨g, hg⟩ : ∃ g, y.fields[j]? = some g := ⟨y.fields[j], by simp [hj]⟩
    have hmg := get_map (f := encFT) hg
    simp only [encFT] at hmg
    have hw := wrap1 hj (by omega)
    have hlt : (j : Int) < (y.fields.length : Int) := by omega
    have et : y.fields.take (j + 1) = y.fields.take j ++ [g] := by rw [List.take_add_one, hg]; rfl
    have hcap : ((newF x (y.fields.take j)).length + 1) * 8 ≤ 140737488355328 := by omega
    have hat := g_table_At_is x g.number
    rw [if_pos ⟨hris, hxl⟩] at hat
    simp only [encTy, hex] at hat
    have hha := hasN_at x g.number
    cases hat2 : atF x.fields g.number with
    | none =>
      rw [hat2] at hat hha
      simp only [encAt, encFT, zft] at hat
      rcases hz0 : lk st.σ 0 with _ | ⟨v0, it0⟩
      all_goals rcases hz1 : lk st.σ 1 with _ | ⟨v1, it1⟩
      all_goals
        (simp -implicitDefEqProofs +contextual (maxSteps := 8000000) only [go_sem, ↓reduceIte, Nat.reduceEqDiff, Nat.reduceAdd, Nat.reduceSub, Nat.reduceLeDiff, Nat.reduceMul, reduceCtorEq, Nat.reduceBEq, Int.reduceLT, Int.reduceLE, Int.reduceNeg, Int.reduceEq, Int.reduceToNat, Nat.reducePow, Nat.reduceLT, Nat.reduceDiv, Nat.reduceMod, encTable, envEf, i_table_Good, i_table_Find, i_table_At, hmx, hil, hili, hat, h3, h8, h12, h64, h65, h66, k2, hj, hlt, hmg, hw, hcap, hz0, hz1, nxt, forall_eq'])
        exact ⟨n - 1, by omega, j + 1, v + 1, by simp [lk, h3, encTable], by simp [lk, h8], by simp [lk], by simp [lk, h64], by simp [lk, h65], by simp [lk], by rw [et, newF_snoc, if_neg (by simp [hha])]; simp [lk_upd, encI], by omega, by omega⟩
    | some f =>
      rw [hat2] at hat hha
      simp only [encAt, encFT] at hat
      rcases hz0 : lk st.σ 0 with _ | ⟨v0, it0⟩
      all_goals rcases hz1 : lk st.σ 1 with _ | ⟨v1, it1⟩
      all_goals
        (simp -implicitDefEqProofs +contextual (maxSteps := 8000000) only [go_sem, ↓reduceIte, Nat.reduceEqDiff, Nat.reduceAdd, Nat.reduceSub, Nat.reduceLeDiff, Nat.reduceMul, reduceCtorEq, Nat.reduceBEq, Int.reduceLT, Int.reduceLE, Int.reduceNeg, Int.reduceEq, Int.reduceToNat, Nat.reducePow, Nat.reduceLT, Nat.reduceDiv, Nat.reduceMod, encTable, envEf, i_table_Good, i_table_Find, i_table_At, hmx, hil, hili, hat, h3, h8, h12, h64, h65, h66, k2, hj, hlt, hmg, hw, hcap, hz0, hz1, nxt, forall_eq'])
        exact ⟨n - 1, by omega, j + 1, v, by simp [lk, h3, encTable], by simp [lk, h8], by simp [lk, h12], by simp [lk, h64], by simp [lk, h65], by simp [lk], by rw [et, newF_snoc, if_pos (by simp [hha])]; simp [lk_upd, k2], by omega, by omega⟩
  · have hlt : ¬ (j : Int) < (y.fields.length : Int) := by omega
    rw [List.take_of_length_le (by omega)] at k2
    have hln2 := newF_len x y.fields
    have hcap : (newF x y.fields).length * 8 ≤ 140737488355328 := by omega
    have hcapi : ((newF x y.fields).length : Int) * 8 ≤ 140737488355328 := by omega
    have hos := oneSize_int (newF x y.fields)
    rcases hz3 : lk st.σ 3 with _ | ⟨v3, it3⟩
    all_goals
      (simp -implicitDefEqProofs +contextual (maxSteps := 8000000) only [go_sem, ↓reduceIte, Nat.reduceEqDiff, Nat.reduceAdd, Nat.reduceSub, Nat.reduceLeDiff, Nat.reduceMul, reduceCtorEq, Nat.reduceBEq, Int.reduceLT, Int.reduceLE, Int.reduceNeg, Int.reduceEq, Int.reduceToNat, Nat.reducePow, Nat.reduceLT, Nat.reduceDiv, Nat.reduceMod, encTable, envEf, h3, h8, h12, h64, h65, h66, k2, hj, hlt, hcap, hcapi, hos, hz3, nxt, List.length_map, Nat.zero_add, Int.zero_add, List.replicate_zero])
noncomputable def envBo : Env := { split := true, fc := [(i_cartoucheref7_Find, g_cartoucheref7_Find)] }
theorem envBo_ok : EnvOk Tryd.prog envBo := EnvOk.noneS.addF g_cartoucheref7_Find_ok
theorem ref18_Both_fc (a b : List Ty) (name : ByteArray) (ha : a.length ≤ 2000000) (hb : b.length ≤ 2000000) : FC Tryd.prog i_cartoucheref18_Both [encTable a, encTable b, .str name] (· = bothP a b name) := by
  have hfa := g_cartoucheref7_Find_is a name
  have hfb := g_cartoucheref7_Find_is b name
  rw [if_pos ha] at hfa
  rw [if_pos hb] at hfb
  simp only [encTable] at hfa hfb
  unfold findR at hfa hfb
  unfold bothP
  cases h3 : findI a name with
  | none =>
    have hbf : bothF a b name = none := by simp [bothF, h3]
    rw [hbf]
    rw [h3] at hfa
    rcases h4 : findI b name with _ | k
    all_goals
      rw [h4] at hfb
      (refine FC.vc (envBo_ok) F_cartoucheref18_Both T_cartoucheref18_Both L_cartoucheref18_Both ?_; unfold A_cartoucheref18_Both; simp only [args0, List.map_cons, List.map_nil, List.zipIdx_cons, List.zipIdx_nil, Nat.reduceAdd])
      (simp -implicitDefEqProofs +contextual (maxSteps := 8000000) only [go_sem, ↓reduceIte, Nat.reduceEqDiff, Nat.reduceAdd, Nat.reduceSub, Nat.reduceLeDiff, Nat.reduceMul, reduceCtorEq, Nat.reduceBEq, Int.reduceLT, Int.reduceLE, Int.reduceNeg, Int.reduceEq, Int.reduceToNat, Nat.reducePow, Nat.reduceLT, Nat.reduceDiv, Nat.reduceMod, encTable, envBo, i_cartoucheref7_Find, hfa, hfb])
  | some i =>
  rw [h3] at hfa
  obtain ⟨x, hx⟩ := findI_get h3
  have hi0 : ¬ (i : Int) < 0 := by omega
  cases h4 : findI b name with
  | none =>
    have hbf : bothF a b name = none := by simp [bothF, h3, h4]
    rw [hbf]
    rw [h4] at hfb
    (refine FC.vc (envBo_ok) F_cartoucheref18_Both T_cartoucheref18_Both L_cartoucheref18_Both ?_; unfold A_cartoucheref18_Both; simp only [args0, List.map_cons, List.map_nil, List.zipIdx_cons, List.zipIdx_nil, Nat.reduceAdd])
    (simp -implicitDefEqProofs +contextual (maxSteps := 8000000) only [go_sem, ↓reduceIte, Nat.reduceEqDiff, Nat.reduceAdd, Nat.reduceSub, Nat.reduceLeDiff, Nat.reduceMul, reduceCtorEq, Nat.reduceBEq, Int.reduceLT, Int.reduceLE, Int.reduceNeg, Int.reduceEq, Int.reduceToNat, Nat.reducePow, Nat.reduceLT, Nat.reduceDiv, Nat.reduceMod, encTable, envBo, i_cartoucheref7_Find, hfa, hfb, hi0])
  | some k =>
  rw [h4] at hfb
  obtain ⟨y, hy⟩ := findI_get h4
  have hk0 : ¬ (k : Int) < 0 := by omega
  have hmx := get_map (f := encTy) hx
  have hmy := get_map (f := encTy) hy
  have hil := (List.getElem?_eq_some_iff.1 hx).1
  have hkl := (List.getElem?_eq_some_iff.1 hy).1
  have hili : (i : Int) < (a.length : Int) := by omega
  have hkli : (k : Int) < (b.length : Int) := by omega
  simp only [encTy] at hmx hmy
  cases hex : x.enum with
  | true =>
    have hbf : bothF a b name = none := by simp [bothF, h3, h4, hx, hy, hex]
    rw [hbf]
    rw [hex] at hmx
    (refine FC.vc (envBo_ok) F_cartoucheref18_Both T_cartoucheref18_Both L_cartoucheref18_Both ?_; unfold A_cartoucheref18_Both; simp only [args0, List.map_cons, List.map_nil, List.zipIdx_cons, List.zipIdx_nil, Nat.reduceAdd])
    (simp -implicitDefEqProofs +contextual (maxSteps := 8000000) only [go_sem, ↓reduceIte, Nat.reduceEqDiff, Nat.reduceAdd, Nat.reduceSub, Nat.reduceLeDiff, Nat.reduceMul, reduceCtorEq, Nat.reduceBEq, Int.reduceLT, Int.reduceLE, Int.reduceNeg, Int.reduceEq, Int.reduceToNat, Nat.reducePow, Nat.reduceLT, Nat.reduceDiv, Nat.reduceMod, encTable, envBo, i_cartoucheref7_Find, hfa, hfb, hmx, hmy, hil, hkl, hili, hkli, hi0, hk0, hx, hy, hex, forall_eq'])
  | false =>
  rw [hex] at hmx
  cases hey : y.enum with
  | true =>
    have hbf : bothF a b name = none := by simp [bothF, h3, h4, hx, hy, hex, hey]
    rw [hbf]
    rw [hey] at hmy
    (refine FC.vc (envBo_ok) F_cartoucheref18_Both T_cartoucheref18_Both L_cartoucheref18_Both ?_; unfold A_cartoucheref18_Both; simp only [args0, List.map_cons, List.map_nil, List.zipIdx_cons, List.zipIdx_nil, Nat.reduceAdd])
    (simp -implicitDefEqProofs +contextual (maxSteps := 8000000) only [go_sem, ↓reduceIte, Nat.reduceEqDiff, Nat.reduceAdd, Nat.reduceSub, Nat.reduceLeDiff, Nat.reduceMul, reduceCtorEq, Nat.reduceBEq, Int.reduceLT, Int.reduceLE, Int.reduceNeg, Int.reduceEq, Int.reduceToNat, Nat.reducePow, Nat.reduceLT, Nat.reduceDiv, Nat.reduceMod, encTable, envBo, i_cartoucheref7_Find, hfa, hfb, hmx, hmy, hil, hkl, hili, hkli, hi0, hk0, hx, hy, hex, hey, forall_eq'])
  | false =>
    have hbf : bothF a b name = some (x, y, i, k) := by simp [bothF, h3, h4, hx, hy, hex, hey]
    rw [hbf]
    rw [hey] at hmy
    (refine FC.vc (envBo_ok) F_cartoucheref18_Both T_cartoucheref18_Both L_cartoucheref18_Both ?_; unfold A_cartoucheref18_Both; simp only [args0, List.map_cons, List.map_nil, List.zipIdx_cons, List.zipIdx_nil, Nat.reduceAdd])
    (simp -implicitDefEqProofs +contextual (maxSteps := 8000000) only [go_sem, ↓reduceIte, Nat.reduceEqDiff, Nat.reduceAdd, Nat.reduceSub, Nat.reduceLeDiff, Nat.reduceMul, reduceCtorEq, Nat.reduceBEq, Int.reduceLT, Int.reduceLE, Int.reduceNeg, Int.reduceEq, Int.reduceToNat, Nat.reducePow, Nat.reduceLT, Nat.reduceDiv, Nat.reduceMod, encTable, envBo, i_cartoucheref7_Find, hfa, hfb, hmx, hmy, hil, hkl, hili, hkli, hi0, hk0, hx, hy, hex, hey, forall_eq'])
end Go.Proofs.YtmdkcapbahjipaaDoor.Ag
namespace Go.Proofs.YtmdkcapbahjipaaDoor.Ag
def fr18 (a b : List Ty) (i k : Int) : IV := match a[i.toNat]?, b[k.toNat]? with
  | some x, some y => .slice ((newF x y.fields).map encI)
  | _, _ => .nil
def Fr18 (a b : List Ty) (i k : Int) : Prop := 0 ≤ i ∧ 0 ≤ k ∧ ∃ x y, a[i.toNat]? = some x ∧ b[k.toNat]? = some y ∧ x.fields.length ≤ 2000000 ∧ y.fields.length ≤ 2000000
noncomputable def envFr : Env := { split := true, fc := [(i_cartoucheref18_fresh, g_cartoucheref18_fresh)] }
theorem envFr_ok : EnvOk Tryd.prog envFr := EnvOk.noneS.addF g_cartoucheref18_fresh_ok
theorem ref18_Fresh_fc (a b : List Ty) (i k : Int) (h : Fr18 a b i k) : FC Tryd.prog i_cartoucheref18_Fresh [encTable a, encTable b, .int .i64 i, .int .i64 k] (· = fr18 a b i k) := by
  obtain ⟨h1, h2, x, y, hx, hy, hxl, hyl⟩ := h
  obtain ⟨i, rfl⟩ := Int.eq_ofNat_of_zero_le h1
  obtain ⟨k, rfl⟩ := Int.eq_ofNat_of_zero_le h2
  simp only [Int.toNat_natCast, Int.ofNat_eq_natCast] at hx hy
  have hf := g_cartoucheref18_fresh_is x y
  rw [if_pos ⟨hxl, hyl⟩] at hf
  unfold fr18
  simp only [Int.toNat_natCast, Int.ofNat_eq_natCast, hx, hy]
  have hmx := get_map (f := encTy) hx
  have hmy := get_map (f := encTy) hy
  have hil := (List.getElem?_eq_some_iff.1 hx).1
  have hkl := (List.getElem?_eq_some_iff.1 hy).1
  have hili : (i : Int) < (a.length : Int) := by omega
  have hkli : (k : Int) < (b.length : Int) := by omega
  simp only [encTy] at hmx hmy hf
  (refine FC.vc (envFr_ok) F_cartoucheref18_Fresh T_cartoucheref18_Fresh L_cartoucheref18_Fresh ?_; unfold A_cartoucheref18_Fresh; simp only [args0, List.map_cons, List.map_nil, List.zipIdx_cons, List.zipIdx_nil, Nat.reduceAdd])
  (simp -implicitDefEqProofs +contextual (maxSteps := 8000000) only [go_sem, ↓reduceIte, Nat.reduceEqDiff, Nat.reduceAdd, Nat.reduceSub, Nat.reduceLeDiff, Nat.reduceMul, reduceCtorEq, Nat.reduceBEq, Int.reduceLT, Int.reduceLE, Int.reduceNeg, Int.reduceEq, Int.reduceToNat, Nat.reducePow, Nat.reduceLT, Nat.reduceDiv, Nat.reduceMod, encTable, envFr, i_cartoucheref18_fresh, hf, hmx, hmy, hil, hkl, hili, hkli, hx, hy, forall_eq'])
end Go.Proofs.YtmdkcapbahjipaaDoor.Ag
