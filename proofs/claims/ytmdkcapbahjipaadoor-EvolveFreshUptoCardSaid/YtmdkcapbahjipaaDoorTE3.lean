/- The law EvolveFresh, walked. -/
import Derived.Test.YtmdkcapbahjipaaDoorTE2
import Derived.Test.YtmdkcapbahjipaaDoorK18
set_option linter.unusedVariables false
set_option linter.unusedSimpArgs false
set_option maxRecDepth 100000
set_option maxHeartbeats 8000000
namespace Go.Proofs.YtmdkcapbahjipaaDoor.Ag
def g_awake18 : List IV → Option IV
  | [] => some (.bool true)
  | _ => none
theorem g_awake18_ok : ∀ xs r, g_awake18 xs = some r → FC Tryd.prog i_cartouchelaw18_awake xs (· = r) := by
  intro xs r h
  unfold g_awake18 at h
  split at h
  · injection h with h; subst h; exact K18.fc_aw18
  · cases h
theorem g_awake18_is : g_awake18 [] = some (.bool true) := rfl
end Go.Proofs.YtmdkcapbahjipaaDoor.Ag
namespace Go.Proofs.YtmdkcapbahjipaaDoor.Ag
open Classical
noncomputable def g_evolve_Fresh : List IV → Option IV
  | [a_, b_, .str name] => (match decTable a_ with
    | some a => (match decTable b_ with
    | some b => if okT a ∧ okT b then some (freshP a b name) else none
    | none => none)
    | none => none)
  | _ => none
theorem g_evolve_Fresh_is (a : List Ty) (b : List Ty) (name : ByteArray) : g_evolve_Fresh [encTable a, encTable b, .str name] = if okT a ∧ okT b then some (freshP a b name) else none := by
  simp only [g_evolve_Fresh, decTable_enc, decTable_enc]
theorem g_evolve_Fresh_ok : ∀ xs r, g_evolve_Fresh xs = some r → FC Tryd.prog i_evolve_Fresh xs (· = r) := by
  intro xs r h
  unfold g_evolve_Fresh at h
  split at h
  · rename_i a_ b_ name
    split at h
    · rename_i a ha
      split at h
      · rename_i b hb
        split at h
        · rename_i hpre
          injection h with h; subst h
          have := decTable_enc_inv ha; subst this
          have := decTable_enc_inv hb; subst this
          exact evolve_Fresh_fc a b name hpre.1 hpre.2
        · cases h
      · cases h
    · cases h
  · cases h

noncomputable def g_cartoucheref18_Both : List IV → Option IV
  | [a_, b_, .str name] => (match decTable a_ with
    | some a => (match decTable b_ with
    | some b => if a.length ≤ 2000000 ∧ b.length ≤ 2000000 then some (bothP a b name) else none
    | none => none)
    | none => none)
  | _ => none
theorem g_cartoucheref18_Both_is (a : List Ty) (b : List Ty) (name : ByteArray) : g_cartoucheref18_Both [encTable a, encTable b, .str name] = if a.length ≤ 2000000 ∧ b.length ≤ 2000000 then some (bothP a b name) else none := by
  simp only [g_cartoucheref18_Both, decTable_enc, decTable_enc]
theorem g_cartoucheref18_Both_ok : ∀ xs r, g_cartoucheref18_Both xs = some r → FC Tryd.prog i_cartoucheref18_Both xs (· = r) := by
  intro xs r h
  unfold g_cartoucheref18_Both at h
  split at h
  · rename_i a_ b_ name
    split at h
    · rename_i a ha
      split at h
      · rename_i b hb
        split at h
        · rename_i hpre
          injection h with h; subst h
          have := decTable_enc_inv ha; subst this
          have := decTable_enc_inv hb; subst this
          exact ref18_Both_fc a b name hpre.1 hpre.2
        · cases h
      · cases h
    · cases h
  · cases h

noncomputable def g_cartoucheref18_Fresh : List IV → Option IV
  | [a_, b_, .int .i64 i, .int .i64 k] => (match decTable a_ with
    | some a => (match decTable b_ with
    | some b => if Fr18 a b i k then some (fr18 a b i k) else none
    | none => none)
    | none => none)
  | _ => none
theorem g_cartoucheref18_Fresh_is (a : List Ty) (b : List Ty) (i : Int) (k : Int) : g_cartoucheref18_Fresh [encTable a, encTable b, .int .i64 i, .int .i64 k] = if Fr18 a b i k then some (fr18 a b i k) else none := by
  simp only [g_cartoucheref18_Fresh, decTable_enc, decTable_enc]
theorem g_cartoucheref18_Fresh_ok : ∀ xs r, g_cartoucheref18_Fresh xs = some r → FC Tryd.prog i_cartoucheref18_Fresh xs (· = r) := by
  intro xs r h
  unfold g_cartoucheref18_Fresh at h
  split at h
  · rename_i a_ b_ i k
    split at h
    · rename_i a ha
      split at h
      · rename_i b hb
        split at h
        · rename_i hpre
          injection h with h; subst h
          have := decTable_enc_inv ha; subst this
          have := decTable_enc_inv hb; subst this
          exact ref18_Fresh_fc a b i k hpre
        · cases h
      · cases h
    · cases h
  · cases h

end Go.Proofs.YtmdkcapbahjipaaDoor.Ag
namespace Go.Proofs.YtmdkcapbahjipaaDoor.Ag
attribute [-go_sem] Int.not_lt Int.not_le
noncomputable def envL18 : Env := { split := true, fc := [(i_evolve_Fresh, g_evolve_Fresh), (i_cartouchelaw18_awake, g_awake18), (i_evolve_Wider, g_evolve_Wider), (i_cartoucheref18_Wider, g_cartoucheref18_Wider), (i_cartoucheref7_Good, g_cartoucheref7_Good), (i_cartoucheref18_Both, g_cartoucheref18_Both), (i_cartoucheref18_Fresh, g_cartoucheref18_Fresh)] }
theorem envL18_ok : EnvOk Tryd.prog envL18 := ((((((EnvOk.noneS.addF g_cartoucheref18_Fresh_ok).addF g_cartoucheref18_Both_ok).addF g_cartoucheref7_Good_ok).addF g_cartoucheref18_Wider_ok).addF g_evolve_Wider_ok).addF g_awake18_ok).addF g_evolve_Fresh_ok
def EvI (l : List Int) (n : Nat) (st : St) : Prop := ∃ j : Nat, lk st.ρ 11 = some (.iv (.slice (l.map encI))) ∧ lk st.ρ 16 = some (.iv (.slice (l.map encI))) ∧ lk st.ρ 17 = some (.iv (.int .i64 (j : Int))) ∧ j ≤ l.length ∧ l.length < j + n
theorem evolveFresh_fc (a b : List Ty) (name : ByteArray) (u v : Int) (ha : okT a) (hb : okT b) : FC Tryd.prog i_cartouchelaw18_EvolveFresh [encTable a, encTable b, .str name, .int .i64 u, .int .i64 v] (· = .bool true) := by
  have h1 := g_evolve_Fresh_is a b name
  have h2 := g_cartoucheref7_Good_is a
  have h3 := g_cartoucheref7_Good_is b
  have h4 := g_cartoucheref18_Both_is a b name
  have w1 := g_evolve_Wider_is u v
  have w2 := g_cartoucheref18_Wider_is u v
  rw [if_pos ⟨ha, hb⟩] at h1
  rw [if_pos ha] at h2
  rw [if_pos hb] at h3
  rw [if_pos ⟨ha.1, hb.1⟩] at h4
  simp only [encTable] at h1 h2 h3 h4
  unfold freshP at h1
  unfold bothP at h4
  generalize hda : dec (GoodT a) = da at h1 h2
  generalize hdb : dec (GoodT b) = db at h1 h3
  cases da with
  | false =>
    (refine FC.vc (envL18_ok) F_cartouchelaw18_EvolveFresh T_cartouchelaw18_EvolveFresh L_cartouchelaw18_EvolveFresh ?_; unfold A_cartouchelaw18_EvolveFresh; simp only [args0, List.map_cons, List.map_nil, List.zipIdx_cons, List.zipIdx_nil, Nat.reduceAdd])
    (simp -implicitDefEqProofs +contextual (maxSteps := 8000000) only [go_sem, ↓reduceIte, Nat.reduceEqDiff, Nat.reduceAdd, Nat.reduceSub, Nat.reduceLeDiff, Nat.reduceMul, reduceCtorEq, Nat.reduceBEq, Int.reduceLT, Int.reduceLE, Int.reduceNeg, Int.reduceEq, Int.reduceToNat, Nat.reducePow, Nat.reduceLT, Nat.reduceDiv, Nat.reduceMod, encTable, envL18, i_evolve_Fresh, i_cartouchelaw18_awake, i_evolve_Wider, i_cartoucheref18_Wider, i_cartoucheref7_Good, i_cartoucheref18_Both, i_cartoucheref18_Fresh, h1, h2, h3, h4, w1, w2, g_awake18_is, Bool.false_and])
  | true =>
  cases db with
  | false =>
    (refine FC.vc (envL18_ok) F_cartouchelaw18_EvolveFresh T_cartouchelaw18_EvolveFresh L_cartouchelaw18_EvolveFresh ?_; unfold A_cartouchelaw18_EvolveFresh; simp only [args0, List.map_cons, List.map_nil, List.zipIdx_cons, List.zipIdx_nil, Nat.reduceAdd])
    (simp -implicitDefEqProofs +contextual (maxSteps := 8000000) only [go_sem, ↓reduceIte, Nat.reduceEqDiff, Nat.reduceAdd, Nat.reduceSub, Nat.reduceLeDiff, Nat.reduceMul, reduceCtorEq, Nat.reduceBEq, Int.reduceLT, Int.reduceLE, Int.reduceNeg, Int.reduceEq, Int.reduceToNat, Nat.reducePow, Nat.reduceLT, Nat.reduceDiv, Nat.reduceMod, encTable, envL18, i_evolve_Fresh, i_cartouchelaw18_awake, i_evolve_Wider, i_cartoucheref18_Wider, i_cartoucheref7_Good, i_cartoucheref18_Both, i_cartoucheref18_Fresh, h1, h2, h3, h4, w1, w2, g_awake18_is, Bool.and_false])
  | true =>
  have gA := dec_iff.1 hda
  have gB := dec_iff.1 hdb
  rw [Bool.and_self, if_pos rfl] at h1
  cases hbo : bothF a b name with
  | none =>
    rw [hbo] at h1 h4
    (refine FC.vc (envL18_ok) F_cartouchelaw18_EvolveFresh T_cartouchelaw18_EvolveFresh L_cartouchelaw18_EvolveFresh ?_; unfold A_cartouchelaw18_EvolveFresh; simp only [args0, List.map_cons, List.map_nil, List.zipIdx_cons, List.zipIdx_nil, Nat.reduceAdd])
    (simp -implicitDefEqProofs +contextual (maxSteps := 8000000) only [go_sem, ↓reduceIte, Nat.reduceEqDiff, Nat.reduceAdd, Nat.reduceSub, Nat.reduceLeDiff, Nat.reduceMul, reduceCtorEq, Nat.reduceBEq, Int.reduceLT, Int.reduceLE, Int.reduceNeg, Int.reduceEq, Int.reduceToNat, Nat.reducePow, Nat.reduceLT, Nat.reduceDiv, Nat.reduceMod, encTable, envL18, i_evolve_Fresh, i_cartouchelaw18_awake, i_evolve_Wider, i_cartoucheref18_Wider, i_cartoucheref7_Good, i_cartoucheref18_Both, i_cartoucheref18_Fresh, h1, h2, h3, h4, w1, w2, g_awake18_is])
  | some q =>
  obtain ⟨x, y, i, k⟩ := q
  rw [hbo] at h1 h4
  obtain ⟨hx, hy, hex, hey⟩ : a[i]? = some x ∧ b[k]? = some y ∧ x.enum = false ∧ y.enum = false := by
    unfold bothF at hbo
    split at hbo
    · split at hbo
      · split at hbo
        · rename_i e
          simp only [Option.some.injEq, Prod.mk.injEq] at hbo
          obtain ⟨rfl, rfl, rfl, rfl⟩ := hbo
          exact ⟨by assumption, by assumption, e.1, e.2⟩
        · cases hbo
      · cases hbo
    · cases hbo
  have hxl : x.fields.length ≤ 2000000 := Nat.le_trans (good_msg gA hx hex).2.1 (by omega)
  have hyl : y.fields.length ≤ 2000000 := Nat.le_trans (good_msg gB hy hey).2.1 (by omega)
  have h5 := g_cartoucheref18_Fresh_is a b (i : Int) (k : Int)
  rw [if_pos ⟨by omega, by omega, x, y, by simpa using hx, by simpa using hy, hxl, hyl⟩] at h5
  simp only [fr18, Int.toNat_natCast, hx, hy, encTable] at h5
  have hln := newF_len x y.fields
  dsimp only at h1 h4
  generalize newF x y.fields = l at h1 h5 hln
  (refine FC.vc (envL18_ok) F_cartouchelaw18_EvolveFresh T_cartouchelaw18_EvolveFresh L_cartouchelaw18_EvolveFresh ?_; unfold A_cartouchelaw18_EvolveFresh; simp only [args0, List.map_cons, List.map_nil, List.zipIdx_cons, List.zipIdx_nil, Nat.reduceAdd])
  (simp -implicitDefEqProofs +contextual (maxSteps := 8000000) only [go_sem, ↓reduceIte, Nat.reduceEqDiff, Nat.reduceAdd, Nat.reduceSub, Nat.reduceLeDiff, Nat.reduceMul, reduceCtorEq, Nat.reduceBEq, Int.reduceLT, Int.reduceLE, Int.reduceNeg, Int.reduceEq, Int.reduceToNat, Nat.reducePow, Nat.reduceLT, Nat.reduceDiv, Nat.reduceMod, encTable, envL18, i_evolve_Fresh, i_cartouchelaw18_awake, i_evolve_Wider, i_cartoucheref18_Wider, i_cartoucheref7_Good, i_cartoucheref18_Both, i_cartoucheref18_Fresh, h1, h2, h3, h4, h5, w1, w2, g_awake18_is])
  refine vc_loop (EvI l) (l.length + 1) ⟨0, by simp [lk], by simp [lk], by simp [lk], by omega, by omega⟩ ?_
  rintro n st ⟨j, k1, k2, k3, g1, g2⟩
  by_cases hj : j < l.length
  · obtain ⟨g, hg⟩ : ∃ g, l[j]? = some g := ⟨l[j], by simp [hj]⟩
    have hmg := get_map (f := encI) hg
    simp only [encI] at hmg
    have hw := wrap1 hj (by omega)
    have hlt : (j : Int) < (l.length : Int) := by omega
    (simp -implicitDefEqProofs +contextual (maxSteps := 8000000) only [go_sem, ↓reduceIte, Nat.reduceEqDiff, Nat.reduceAdd, Nat.reduceSub, Nat.reduceLeDiff, Nat.reduceMul, reduceCtorEq, Nat.reduceBEq, Int.reduceLT, Int.reduceLE, Int.reduceNeg, Int.reduceEq, Int.reduceToNat, Nat.reducePow, Nat.reduceLT, Nat.reduceDiv, Nat.reduceMod, k1, k2, k3, hj, hlt, hmg, hw, forall_eq', encI])
    exact ⟨n - 1, by omega, j + 1, by simp [lk, k1], by simp [lk, k2], by simp [lk], by omega, by omega⟩
  · have hlt : ¬ (j : Int) < (l.length : Int) := by omega
    (simp -implicitDefEqProofs +contextual (maxSteps := 8000000) only [go_sem, ↓reduceIte, Nat.reduceEqDiff, Nat.reduceAdd, Nat.reduceSub, Nat.reduceLeDiff, Nat.reduceMul, reduceCtorEq, Nat.reduceBEq, Int.reduceLT, Int.reduceLE, Int.reduceNeg, Int.reduceEq, Int.reduceToNat, Nat.reducePow, Nat.reduceLT, Nat.reduceDiv, Nat.reduceMod, k1, k2, k3, hj, hlt])
end Go.Proofs.YtmdkcapbahjipaaDoor.Ag
