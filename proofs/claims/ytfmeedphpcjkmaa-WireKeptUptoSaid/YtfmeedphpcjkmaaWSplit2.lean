/- The reference's Split; Join; lists compared. -/
import Derived.Test.YtfmeedphpcjkmaaWG3
set_option linter.unusedVariables false
set_option linter.unusedSimpArgs false
set_option maxRecDepth 100000
set_option maxHeartbeats 2000000
namespace Go.Proofs.Ytfmeedphpcjkmaa.Ag
def envRSp : Env := { fc := [(i_cartoucheref1_GetEntry, g_cartoucheref1_GetEntry)] }
theorem envRSp_ok : EnvOk Try.prog envRSp := EnvOk.none.addF g_cartoucheref1_GetEntry_ok
theorem ref_split_fc (b : List UInt8) (hb : b.length ≤ 100000000000) : FC Try.prog i_cartoucheref1_Split [.slice (b.map encB)] (· = encSL (spL b)) := by
  have hb' : b.length ≤ 140737488351232 := by omega
  (refine FC.vc (envRSp_ok) F_cartoucheref1_Split T_cartoucheref1_Split L_cartoucheref1_Split ?_; unfold A_cartoucheref1_Split; simp only [args0, List.map_cons, List.map_nil, List.zipIdx_cons, List.zipIdx_nil, Nat.reduceAdd])
  (simp -implicitDefEqProofs +contextual (maxSteps := 8000000) only [go_sem, ↓reduceIte, Nat.reduceEqDiff, Nat.reduceAdd, Nat.reduceSub, Nat.reduceLeDiff, Nat.reduceMul, reduceCtorEq, Nat.reduceBEq, Int.reduceLT, Int.reduceLE, Int.reduceNeg, Int.reduceEq, Int.reduceToNat, Nat.reducePow, Nat.reduceLT, Nat.reduceDiv, Nat.reduceMod, envRSp, i_cartoucheref1_GetEntry, g_cartoucheref1_GetEntry_is, encGE, encE_one])
  refine vc_loopN 4 7 60 4 (SpI b) (b.length + 1) (by simp [lk]) ⟨[], 0, 0, by simp [lk], by simp [lk, nxt], by simp [lk], by simp [lk, upd, nxt], by omega, by omega, by simp, rfl⟩ ?_
  rintro n s ⟨acc, v, at_, h0, h4, h5, h7, g1, g2, g3, g4⟩
  have hr := spF_round g1 g2 g4
  have g1' : (at_ : Int) ≤ b.length := by omega
  rcases hz : lk s.σ 0 with _ | ⟨v0, it0⟩
  all_goals
    (simp -implicitDefEqProofs +contextual (maxSteps := 8000000) only [go_sem, ↓reduceIte, Nat.reduceEqDiff, Nat.reduceAdd, Nat.reduceSub, Nat.reduceLeDiff, Nat.reduceMul, reduceCtorEq, Nat.reduceBEq, Int.reduceLT, Int.reduceLE, Int.reduceNeg, Int.reduceEq, Int.reduceToNat, Nat.reducePow, Nat.reduceLT, Nat.reduceDiv, Nat.reduceMod, envRSp, i_cartoucheref1_GetEntry, g_cartoucheref1_GetEntry_is, encGE, encE, encE_one, h0, h4, h5, h7, hz, lk_upd, nxt, hb', g1, g1'])
    refine ⟨fun hlt => ⟨fun he => ?_, fun he => ⟨by omega, ?_⟩⟩, fun hlt => ?_⟩
    · rw [(hr.1 hlt).1 he]; rfl
    · exact SpI_next (v := v + 1) g1 g2 g3 g4 hlt he (by simp [lk, h0]) (by simp [lk]) (by simp [lk]) (by simp [lk_upd, encE])
    · rw [hr.2 hlt]; rfl
def envLi : Env := { fc := [(i_cartoucheref1_Same, g_cartoucheref1_Same)] }
theorem envLi_ok : EnvOk Try.prog envLi := EnvOk.none.addF g_cartoucheref1_Same_ok
def LiI (x y : List Ent) (n : Nat) (s : St) : Prop := ∃ (i : Nat), lk s.ρ 0 = some (.iv (encEs x)) ∧ lk s.ρ 1 = some (.iv (encEs y)) ∧ lk s.ρ 5 = some (.iv (.int .i64 (i : Int))) ∧ i ≤ x.length ∧ x.length < i + n ∧ x.take i = y.take i
theorem list_fc (x y : List Ent) (hx : x.length ≤ 140737488351232) : FC Try.prog i_cartoucheref1_List [encEs x, encEs y] (· = .bool (decide (x = y))) := by
  (refine FC.vc (envLi_ok) F_cartoucheref1_List T_cartoucheref1_List L_cartoucheref1_List ?_; unfold A_cartoucheref1_List; simp only [args0, List.map_cons, List.map_nil, List.zipIdx_cons, List.zipIdx_nil, Nat.reduceAdd])
  (simp -implicitDefEqProofs +contextual (maxSteps := 8000000) only [go_sem, ↓reduceIte, Nat.reduceEqDiff, Nat.reduceAdd, Nat.reduceSub, Nat.reduceLeDiff, Nat.reduceMul, reduceCtorEq, Nat.reduceBEq, Int.reduceLT, Int.reduceLE, Int.reduceNeg, Int.reduceEq, Int.reduceToNat, Nat.reducePow, Nat.reduceLT, Nat.reduceDiv, Nat.reduceMod, encEs, envLi, i_cartoucheref1_Same, g_cartoucheref1_Same_is])
  refine ⟨fun h => ?_, fun h => ?_⟩
  · have : x ≠ y := by rintro rfl; exact h rfl
    simp [this]
  have hxy : x.length = y.length := by omega
  refine vc_loop (LiI x y) (x.length + 1) ⟨0, by simp [lk, encEs], by simp [lk, encEs], by simp [lk], by omega, by omega, by simp⟩ ?_
  rintro n s ⟨i, h0, h1, h5, g1, g2, g3⟩
  simp only [encEs] at h0 h1
  by_cases hi : i < x.length
  · obtain ⟨e, he⟩ : ∃ e, x[i]? = some e := ⟨x[i], by simp [hi]⟩
    obtain ⟨f, hf⟩ : ∃ f, y[i]? = some f := ⟨y[i]'(by omega), by simp [show i < y.length by omega]⟩
    have hw : IntKind.i64.wrap ((i : Int) + 1) = ((i + 1 : Nat) : Int) := by rw [wrap_i64 (by omega) (by omega)]; omega
    have hgx : (x.map encE)[i]? = some (encE e) := by simp [he]
    have hgy : (y.map encE)[i]? = some (encE f) := by simp [hf]
    have hs := g_cartoucheref1_Same_is e f
    simp only [encE] at hgx hgy hs
    (simp -implicitDefEqProofs +contextual (maxSteps := 8000000) only [go_sem, ↓reduceIte, Nat.reduceEqDiff, Nat.reduceAdd, Nat.reduceSub, Nat.reduceLeDiff, Nat.reduceMul, reduceCtorEq, Nat.reduceBEq, Int.reduceLT, Int.reduceLE, Int.reduceNeg, Int.reduceEq, Int.reduceToNat, Nat.reducePow, Nat.reduceLT, Nat.reduceDiv, Nat.reduceMod, encEs, envLi, i_cartoucheref1_Same, hs, h0, h1, h5, hi, hw, hgx, hgy, Option.some.injEq, forall_eq'])
    refine ⟨by omega, fun hne => ?_, fun heq => ?_⟩
    · have : x ≠ y := by rintro rfl; rw [he] at hf; injection hf with hf; exact hne hf
      simp [this]
    · subst heq
      refine ⟨n - 1, by omega, i + 1, by simp [lk, h0, encEs], by simp [lk, h1, encEs], by simp [lk], by omega, by omega, ?_⟩
      rw [List.take_add_one, List.take_add_one, g3, he, hf]
  · (simp -implicitDefEqProofs +contextual (maxSteps := 8000000) only [go_sem, ↓reduceIte, Nat.reduceEqDiff, Nat.reduceAdd, Nat.reduceSub, Nat.reduceLeDiff, Nat.reduceMul, reduceCtorEq, Nat.reduceBEq, Int.reduceLT, Int.reduceLE, Int.reduceNeg, Int.reduceEq, Int.reduceToNat, Nat.reducePow, Nat.reduceLT, Nat.reduceDiv, Nat.reduceMod, encEs, envLi, i_cartoucheref1_Same, g_cartoucheref1_Same_is, h0, h1, h5, hi])
    have : x = y := by
      rw [List.take_of_length_le (by omega), List.take_of_length_le (by omega)] at g3; exact g3
    simp [this]
def envJn : Env := { fc := [(i_wire_PutEntry, g_wire_PutEntry)] }
theorem envJn_ok : EnvOk Try.prog envJn := EnvOk.none.addF g_wire_PutEntry_ok
theorem szEs_cons (e : Ent) (l : List Ent) : szEs (e :: l) = e.b.length + 30 + szEs l := by simp [szEs]
theorem szEs_get : ∀ {l : List Ent} {i : Nat} {e : Ent}, l[i]? = some e → szEs (l.drop i) = e.b.length + 30 + szEs (l.drop (i + 1))
  | [], i, e, h => by simp at h
  | a :: l, 0, e, h => by simp at h; subst h; simp [szEs_cons]
  | a :: l, i + 1, e, h => by simpa using szEs_get (l := l) (by simpa using h)
theorem szEs_len : ∀ (l : List Ent), 30 * l.length ≤ szEs l
  | [] => by simp [szEs]
  | e :: l => by have := szEs_len l; rw [szEs_cons]; simp; omega
def JnI (x : List Ent) (n : Nat) (s : St) : Prop := ∃ (i v : Nat) (acc : List UInt8), lk s.ρ 9 = some (.iv (encEs x)) ∧ lk s.ρ 10 = some (.iv (.int .i64 (x.length : Int))) ∧ lk s.ρ 11 = some (.iv (.int .i64 (i : Int))) ∧ lk s.ρ 4 = some (.lst 7 v) ∧
  lk s.σ 7 = some (v, .list 5 1 (acc.map encB)) ∧ i ≤ x.length ∧ x.length < i + n ∧ acc.length + szEs (x.drop i) ≤ 1000000000 ∧ jnF (x.drop i) acc = jnF x []
theorem okEs_get {l : List Ent} (h : okEs l = true) {i : Nat} {e : Ent} (he : l[i]? = some e) : e.n < 18446744073709551616 := by
  simp only [okEs, Bool.and_eq_true, List.all_eq_true, decide_eq_true_eq] at h
  exact h.1 e (List.mem_of_getElem? he)
theorem join_fc (x : List Ent) (hx : okEs x = true) : FC Try.prog i_wire_Join [encEs x] (· = encPT (jnF x [])) := by
  have hsz : szEs x ≤ 1000000000 := by simp only [okEs, Bool.and_eq_true, decide_eq_true_eq] at hx; exact hx.2
  have hln := szEs_len x
  (refine FC.vc (envJn_ok) F_wire_Join T_wire_Join L_wire_Join ?_; unfold A_wire_Join; simp only [args0, List.map_cons, List.map_nil, List.zipIdx_cons, List.zipIdx_nil, Nat.reduceAdd])
  (simp -implicitDefEqProofs +contextual (maxSteps := 8000000) only [go_sem, ↓reduceIte, Nat.reduceEqDiff, Nat.reduceAdd, Nat.reduceSub, Nat.reduceLeDiff, Nat.reduceMul, reduceCtorEq, Nat.reduceBEq, Int.reduceLT, Int.reduceLE, Int.reduceNeg, Int.reduceEq, Int.reduceToNat, Nat.reducePow, Nat.reduceLT, Nat.reduceDiv, Nat.reduceMod, encEs, envJn, i_wire_PutEntry, g_wire_PutEntry_is])
  refine vc_loopN 4 7 5 1 (JnI x) (x.length + 1) (by simp [lk]) ⟨0, 0, [], by simp [lk, encEs], by simp [lk], by simp [lk], by simp [lk, nxt], by simp [lk, upd, nxt], by omega, by omega, by simpa using hsz, by simp⟩ ?_
  rintro n s ⟨i, v, acc, h9, h10, h11, h4, h7, g1, g2, g3, g4⟩
  simp only [encEs] at h9
  by_cases hi : i < x.length
  · obtain ⟨e, he⟩ : ∃ e, x[i]? = some e := ⟨x[i], by simp [hi]⟩
    have hw : IntKind.i64.wrap ((i : Int) + 1) = ((i + 1 : Nat) : Int) := by rw [wrap_i64 (by omega) (by omega)]; omega
    have hgx : (x.map encE)[i]? = some (encE e) := by simp [he]
    have hdr := szEs_get he
    have hs := g_wire_PutEntry_is e
    have hn := okEs_get hx he
    have hpl := peS_len hn (by omega)
    rw [if_pos ⟨hn, by omega⟩] at hs
    simp only [encE] at hgx hs
    have hd : x.drop i = e :: x.drop (i + 1) := by
      have := List.drop_eq_getElem_cons hi
      rw [this]; congr 1
      have h5 := List.getElem?_eq_getElem hi
      rw [h5] at he; injection he
    rw [hd, jnF] at g4
    rcases hz : lk s.σ 0 with _ | ⟨v0, it0⟩
    all_goals
      (simp -implicitDefEqProofs +contextual (maxSteps := 8000000) only [go_sem, ↓reduceIte, Nat.reduceEqDiff, Nat.reduceAdd, Nat.reduceSub, Nat.reduceLeDiff, Nat.reduceMul, reduceCtorEq, Nat.reduceBEq, Int.reduceLT, Int.reduceLE, Int.reduceNeg, Int.reduceEq, Int.reduceToNat, Nat.reducePow, Nat.reduceLT, Nat.reduceDiv, Nat.reduceMod, encEs, encPT, envJn, i_wire_PutEntry, hs, h9, h10, h11, h4, h7, hi, hw, hgx, hz, lk_upd, nxt, Option.some.injEq, forall_eq'])
      refine ⟨fun hne => ?_, fun heq => ⟨by omega, n - 1, by omega, i + 1, v + 1, acc ++ (peS e).1, by simp [lk, h9, encEs], by simp [lk, h10], by simp [lk], by simp [lk], by simp [lk_upd], by omega, by omega, by rw [List.length_append]; omega, ?_⟩⟩
      · rw [if_neg hne] at g4; rw [← g4]; simp
      · rw [if_pos heq] at g4; exact g4
  · have hd : x.drop i = [] := List.drop_eq_nil_of_le (by omega)
    rw [hd] at g4 g3
    simp only [jnF] at g4
    have hl : acc.length ≤ 1000000000 := by omega
    rcases hz : lk s.σ 2 with _ | ⟨v0, it0⟩
    all_goals
      (simp -implicitDefEqProofs +contextual (maxSteps := 8000000) only [go_sem, ↓reduceIte, Nat.reduceEqDiff, Nat.reduceAdd, Nat.reduceSub, Nat.reduceLeDiff, Nat.reduceMul, reduceCtorEq, Nat.reduceBEq, Int.reduceLT, Int.reduceLE, Int.reduceNeg, Int.reduceEq, Int.reduceToNat, Nat.reducePow, Nat.reduceLT, Nat.reduceDiv, Nat.reduceMod, encEs, envJn, i_wire_PutEntry, h9, h10, h11, h4, h7, hi, hz, nxt, lk_upd])
      simp [encPT, ← g4]
      omega
abbrev Ents := List Ent
end Go.Proofs.Ytfmeedphpcjkmaa.Ag
