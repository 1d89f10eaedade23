/- The law WireEntries, walked. -/
import Derived.Test.YtfmeedphpcjkmaaWLaw11
set_option linter.unusedVariables false
set_option linter.unusedSimpArgs false
set_option maxRecDepth 100000
set_option maxHeartbeats 4000000
namespace Go.Proofs.Ytfmeedphpcjkmaa.Ag
def envL10 : Env := { fc := [(i_cartouchelaw1_awake, g_cartouchelaw1_awake), (i_wire_Join, g_wire_Join), (i_wire_Split, g_wire_Split), (i_cartoucheref1_Split, g_cartoucheref1_Split), (i_cartoucheref1_List, g_cartoucheref1_List), (i_cartouchelaw1_same, g_cartouchelaw1_same), (i_wire_PutEntry, g_wire_PutEntry), (i_cartoucheref1_PutEntry, g_cartoucheref1_PutEntry), (i_wire_GetEntry, g_wire_GetEntry), (i_cartoucheref1_GetEntry, g_cartoucheref1_GetEntry), (i_cartoucheref1_Same, g_cartoucheref1_Same)] }
theorem envL10_ok : EnvOk Try.prog envL10 := ((((((((((EnvOk.none.addF g_cartoucheref1_Same_ok).addF g_cartoucheref1_GetEntry_ok).addF g_wire_GetEntry_ok).addF g_cartoucheref1_PutEntry_ok).addF g_wire_PutEntry_ok).addF g_cartouchelaw1_same_ok).addF g_cartoucheref1_List_ok).addF g_cartoucheref1_Split_ok).addF g_wire_Split_ok).addF g_wire_Join_ok).addF g_cartouchelaw1_awake_ok
theorem geAt_out {b : List UInt8} {k : Int} (h : ¬ (0 ≤ k ∧ k ≤ b.length)) : geAt b k = (ent0, 0, 18) := by
  unfold geAt gtAt
  rw [gvAt_out h]
  simp [gtT]
theorem spF_len (b : List UInt8) : ∀ (f at_ : Nat) (acc : List Ent), (spF b f at_ acc).1.length ≤ acc.length + f
  | 0, _, _ => by simp [spF]
  | f + 1, at_, acc => by
    rw [spF]
    split
    · split
      · have := spF_len b f (geAt b at_).2.1 (acc ++ [(geAt b at_).1])
        simp at this ⊢; omega
      · simp
    · simp
def EnI (l : List Ent) (b : List UInt8) (at_ : Int) (n : Nat) (s : St) : Prop := ∃ (i v : Nat) (acc : List UInt8),
  lk s.ρ 1 = some (.iv (.slice (l.map encE))) ∧ lk s.ρ 2 = some (.iv (.slice (b.map encB))) ∧ lk s.ρ 3 = some (.iv (.int .i64 at_)) ∧ lk s.ρ 11 = some (.loc 0 0 0) ∧ lk s.ρ 12 = some (.iv (.int .i64 ((geAt b at_).2.1 : Int))) ∧ lk s.ρ 13 = some (.iv (.int .i64 ((geAt b at_).2.2 : Int))) ∧
  lk s.ρ 16 = some (.iv (.slice ((jnF l []).1.map encB))) ∧ lk s.ρ 17 = some (.iv (.int .i64 ((jnF l []).2 : Int))) ∧ lk s.ρ 23 = some (.iv (.int .i64 (i : Int))) ∧
  lk s.σ 0 = some (0, .box [.iv (.int .i64 (geAt b at_).1.num), .iv (.int .i64 (geAt b at_).1.kind), .iv (.int .u64 (geAt b at_).1.n), .iv (.slice ((geAt b at_).1.b.map encB))]) ∧
  (i < l.length → lk s.ρ 22 = some (.lst 7 v) ∧ lk s.σ 7 = some (v, .list 5 1 (acc.map encB))) ∧ i ≤ l.length ∧ l.length < i + n ∧ acc.length + szEs (l.drop i) ≤ 1000000000 ∧ jnF (l.drop i) acc = jnF l []
theorem wireEntries_fc (x : Ent) (l : List Ent) (b : List UInt8) (at_ : Int) (hx : x.n < 18446744073709551616) (hxb : x.b.length ≤ 2000000) (hl : okEs l = true) (hb : b.length ≤ 2000000) : FC Try.prog i_cartouchelaw1_WireEntries [encE x, encEs l, .slice (b.map encB), .int .i64 at_] (· = .bool true) := by
  have hjn : g_wire_Join [.slice (l.map encE)] = some (encPT (jnF l [])) := by have := g_wire_Join_is l; rw [if_pos hl] at this; exact this
  have hli : ∀ a b : List Ent, g_cartoucheref1_List [.slice (a.map encE), .slice (b.map encE)] = if a.length ≤ 140737488351232 then some (.bool (decide (a = b))) else none := fun a b => g_cartoucheref1_List_is a b
  have hsm2 : ∀ a b c : List UInt8, g_cartouchelaw1_same [.slice (a.map encB), .slice (b.map encB ++ c.map encB)] = some (.bool (decide (a = b ++ c))) := fun a b c => by rw [← List.map_append]; exact g_cartouchelaw1_same_is _ _
  have hpe := g_wire_PutEntry_is x
  have hpr := g_cartoucheref1_PutEntry_is x
  rw [if_pos ⟨hx, by omega⟩] at hpe hpr
  simp only [encE] at hpe hpr
  have hsz : szEs l ≤ 1000000000 := by simp only [okEs, Bool.and_eq_true, decide_eq_true_eq] at hl; exact hl.2
  have hln := szEs_len l
  have hgw : g_wire_GetEntry [.slice (b.map encB), .int .i64 at_] = some (encGE (geAt b at_)) := by rw [g_wire_GetEntry_is, if_pos (by omega)]
  have hsy := g_cartoucheref1_Same_is (geAt b at_).1 (geAt b at_).1
  have hs0 : g_cartoucheref1_Same [.agg [.int .i64 0, .int .i64 0, .int .u64 0, .slice []], .agg [.int .i64 0, .int .i64 0, .int .u64 0, .slice []]] = some (.bool true) := by
    have := g_cartoucheref1_Same_is ent0 ent0
    simpa [encE, ent0] using this
  simp only [encE, decide_true] at hsy
  have hspl : (spL b).1.length ≤ 140737488351232 := by have := spF_len b (b.length + 1) 0 []; simp at this; unfold spL; omega
  by_cases hat : 0 ≤ at_ ∧ at_ ≤ b.length
  · have hgr : g_cartoucheref1_GetEntry [.slice (b.map encB), .int .i64 at_] = some (encGE (geAt b at_)) := by rw [g_cartoucheref1_GetEntry_is, if_pos ⟨hat.1, hat.2, by omega⟩]
    have a1 : ¬ at_ < 0 := by omega
    have a2 : ¬ (b.length : Int) < at_ := by omega
    have a1' := hat.1
    have a2' := hat.2
    generalize hge : geAt b at_ = ge at *
    (refine FC.vc (envL10_ok) F_cartouchelaw1_WireEntries T_cartouchelaw1_WireEntries L_cartouchelaw1_WireEntries ?_; unfold A_cartouchelaw1_WireEntries; simp only [args0, List.map_cons, List.map_nil, List.zipIdx_cons, List.zipIdx_nil, Nat.reduceAdd])
    (simp -implicitDefEqProofs +contextual only [go_sem, ↓reduceIte, Nat.reduceEqDiff, Nat.reduceAdd, Nat.reduceSub, Nat.reduceLeDiff, Nat.reduceMul, reduceCtorEq, Nat.reduceBEq, Int.reduceLT, Int.reduceLE, Int.reduceNeg, Int.reduceEq, Int.reduceToNat, Nat.reducePow, Nat.reduceLT, Nat.reduceDiv, Nat.reduceMod, encEs, encPT, encSL, encGE, encE, envL10, i_cartouchelaw1_awake, i_wire_Join, i_wire_Split, i_cartoucheref1_Split, i_cartoucheref1_List, i_cartouchelaw1_same, i_wire_PutEntry, i_cartoucheref1_PutEntry, i_wire_GetEntry, i_cartoucheref1_GetEntry, i_cartoucheref1_Same, g_cartouchelaw1_awake_is, hjn, hli, hpe, hpr, g_wire_Split_is, g_cartoucheref1_Split_is, g_cartouchelaw1_same_is, hgw])
    refine ⟨by omega, by omega, hspl, ?_⟩
    refine vc_loopN 22 7 5 1 (EnI l b at_) (l.length + 1) (by simp [lk]) ⟨0, 0, [], by simp [lk], by simp [lk], by simp [lk], by simp [lk], by simp [lk, hge], by simp [lk, hge], by simp [lk], by simp [lk], by simp [lk], by simp [lk, upd, nxt, hge, ent0], fun _ => ⟨by simp [lk, nxt], by simp [lk, upd, nxt]⟩, by omega, by omega, by simpa using hsz, by simp⟩ ?_
    rintro n s ⟨i, v, acc, h1, h2, h3, h11, h12, h13, h16, h17, h23, h0, h22, g1, g2, g3, g4⟩
    by_cases hi : i < l.length
    · obtain ⟨h22, h7⟩ := h22 hi
      obtain ⟨e, he⟩ : ∃ e, l[i]? = some e := ⟨l[i], by simp [hi]⟩
      have hw : IntKind.i64.wrap ((i : Int) + 1) = ((i + 1 : Nat) : Int) := by rw [wrap_i64 (by omega) (by omega)]; omega
      have hw2 : IntKind.i64.wrap ((l.length : Int) - 1) = ((l.length - 1 : Nat) : Int) := by rw [wrap_i64 (by omega) (by omega)]; omega
      have hgx : (l.map encE)[i]? = some (encE e) := by simp [he]
      have hdr := szEs_get he
      have hs := g_cartoucheref1_PutEntry_is e
      have hn := okEs_get hl he
      have hpl := peS_len hn (by omega)
      have hl0 : (l.length = 0) = False := by simp; intro h; subst h; simp at hi
      rw [if_pos ⟨hn, by omega⟩] at hs
      simp only [encE] at hgx hs
      have hd : l.drop i = e :: l.drop (i + 1) := by
        have := List.drop_eq_getElem_cons hi
        rw [this]; congr 1
        have h5 := List.getElem?_eq_getElem hi
        rw [h5] at he; injection he
      rw [hd, jnF] at g4
      by_cases hp : (peS e).2 = 0
      · have hp0 := pair0 hp
        rw [if_pos hp] at g4
        generalize (peS e).1 = q at hp0 g4 hpl
        by_cases hie0 : i = l.length - 1
        · have hie : (i = l.length - 1) = True := by simp [hie0]
          have hj : jnF l [] = (acc ++ q, 0) := by
            rw [← g4, List.drop_eq_nil_of_le (by omega)]; rfl
          rcases hz : lk s.σ 2 with _ | ⟨v0, it0⟩
          all_goals
            (simp -implicitDefEqProofs +contextual only [go_sem, ↓reduceIte, Nat.reduceEqDiff, Nat.reduceAdd, Nat.reduceSub, Nat.reduceLeDiff, Nat.reduceMul, reduceCtorEq, Nat.reduceBEq, Int.reduceLT, Int.reduceLE, Int.reduceNeg, Int.reduceEq, Int.reduceToNat, Nat.reducePow, Nat.reduceLT, Nat.reduceDiv, Nat.reduceMod, encEs, encPT, encGE, encE, ent0, List.map_nil, envL10, i_cartouchelaw1_same, i_cartoucheref1_PutEntry, i_cartoucheref1_GetEntry, i_cartoucheref1_Same, hsm2, h1, h2, h3, h11, h12, h13, h16, h17, h23, h0, hi, hgr, hsy, hge, a1, a2, a1', a2', hs, hp0, hie, hj, hl0, h22, h7, hw, hw2, hgx, hz, lk_upd, nxt, Option.some.injEq, forall_eq'])
            exact ⟨by omega, n - 1, by omega, i + 1, v + 1, acc ++ q, by simp [lk, h1], by simp [lk, h2], by simp [lk, h3], by simp [lk, h11], by simp [lk, h12], by simp [lk, h13], by simp [lk, h16], by simp [lk, h17], by simp [lk], by simp [lk_upd, h0], fun h => absurd h (by omega), by omega, by omega, by rw [List.length_append]; omega, g4⟩
        · have hie : (i = l.length - 1) = False := by simp [hie0]
          rcases hz : lk s.σ 2 with _ | ⟨v0, it0⟩
          all_goals
            (simp -implicitDefEqProofs +contextual only [go_sem, ↓reduceIte, Nat.reduceEqDiff, Nat.reduceAdd, Nat.reduceSub, Nat.reduceLeDiff, Nat.reduceMul, reduceCtorEq, Nat.reduceBEq, Int.reduceLT, Int.reduceLE, Int.reduceNeg, Int.reduceEq, Int.reduceToNat, Nat.reducePow, Nat.reduceLT, Nat.reduceDiv, Nat.reduceMod, encEs, encPT, encGE, encE, ent0, List.map_nil, envL10, i_cartouchelaw1_same, i_cartoucheref1_PutEntry, i_cartoucheref1_GetEntry, i_cartoucheref1_Same, hsm2, h1, h2, h3, h11, h12, h13, h16, h17, h23, h0, hi, hgr, hsy, hge, a1, a2, a1', a2', hs, hp0, hie, hl0, h22, h7, hw, hw2, hgx, hz, lk_upd, nxt, Option.some.injEq, forall_eq'])
            exact ⟨by omega, n - 1, by omega, i + 1, v + 1, acc ++ q, by simp [lk, h1], by simp [lk, h2], by simp [lk, h3], by simp [lk, h11], by simp [lk, h12], by simp [lk, h13], by simp [lk, h16], by simp [lk, h17], by simp [lk], by simp [lk_upd, h0], fun _ => ⟨by simp [lk], by simp [lk_upd]⟩, by omega, by omega, by rw [List.length_append]; omega, g4⟩
      · rw [if_neg hp] at g4
        have hj : jnF l [] = ([], (peS e).2) := g4.symm
        rcases hz : lk s.σ 2 with _ | ⟨v0, it0⟩
        all_goals
          (simp -implicitDefEqProofs +contextual only [go_sem, ↓reduceIte, Nat.reduceEqDiff, Nat.reduceAdd, Nat.reduceSub, Nat.reduceLeDiff, Nat.reduceMul, reduceCtorEq, Nat.reduceBEq, Int.reduceLT, Int.reduceLE, Int.reduceNeg, Int.reduceEq, Int.reduceToNat, Nat.reducePow, Nat.reduceLT, Nat.reduceDiv, Nat.reduceMod, encEs, encPT, encGE, encE, ent0, List.map_nil, envL10, i_cartouchelaw1_same, i_cartoucheref1_PutEntry, i_cartoucheref1_GetEntry, i_cartoucheref1_Same, hsm2, h1, h2, h3, h11, h12, h13, h16, h17, h23, h0, hi, hgr, hsy, hge, a1, a2, a1', a2', hs, hp, hj, hl0, h22, h7, hw, hw2, hgx, hz, lk_upd, nxt, Option.some.injEq, forall_eq'])
    · by_cases hl1 : l.length = 0
      · have hi0 : ¬ ((i : Int) < 0) := by omega
        have hj : jnF l [] = ([], 0) := by
          obtain rfl : l = [] := List.eq_nil_of_length_eq_zero hl1
          rfl
        rcases hz : lk s.σ 2 with _ | ⟨v0, it0⟩
        all_goals
          (simp -implicitDefEqProofs +contextual only [go_sem, ↓reduceIte, Nat.reduceEqDiff, Nat.reduceAdd, Nat.reduceSub, Nat.reduceLeDiff, Nat.reduceMul, reduceCtorEq, Nat.reduceBEq, Int.reduceLT, Int.reduceLE, Int.reduceNeg, Int.reduceEq, Int.reduceToNat, Nat.reducePow, Nat.reduceLT, Nat.reduceDiv, Nat.reduceMod, encEs, encPT, encGE, encE, ent0, List.map_nil, envL10, i_cartouchelaw1_same, i_cartoucheref1_PutEntry, i_cartoucheref1_GetEntry, i_cartoucheref1_Same, hsm2, h1, h2, h3, h11, h12, h13, h16, h17, h23, h0, hi, hgr, hsy, hge, a1, a2, a1', a2', hj, hl1, hi0, hz, lk_upd, nxt, Option.some.injEq, forall_eq'])
      · rcases hz : lk s.σ 2 with _ | ⟨v0, it0⟩
        all_goals
          (simp -implicitDefEqProofs +contextual only [go_sem, ↓reduceIte, Nat.reduceEqDiff, Nat.reduceAdd, Nat.reduceSub, Nat.reduceLeDiff, Nat.reduceMul, reduceCtorEq, Nat.reduceBEq, Int.reduceLT, Int.reduceLE, Int.reduceNeg, Int.reduceEq, Int.reduceToNat, Nat.reducePow, Nat.reduceLT, Nat.reduceDiv, Nat.reduceMod, encEs, encPT, encGE, encE, ent0, List.map_nil, envL10, i_cartouchelaw1_same, i_cartoucheref1_PutEntry, i_cartoucheref1_GetEntry, i_cartoucheref1_Same, hsm2, h1, h2, h3, h11, h12, h13, h16, h17, h23, h0, hi, hgr, hsy, hge, a1, a2, a1', a2', hl1, hz, lk_upd, nxt, Option.some.injEq, forall_eq'])
  · have hge := geAt_out hat
    rw [hge] at hgw
    simp only [ent0] at hge
    by_cases a1 : at_ < 0
    · have a3 : ¬ 0 ≤ at_ := by omega
      (refine FC.vc (envL10_ok) F_cartouchelaw1_WireEntries T_cartouchelaw1_WireEntries L_cartouchelaw1_WireEntries ?_; unfold A_cartouchelaw1_WireEntries; simp only [args0, List.map_cons, List.map_nil, List.zipIdx_cons, List.zipIdx_nil, Nat.reduceAdd])
      (simp -implicitDefEqProofs +contextual only [go_sem, ↓reduceIte, Nat.reduceEqDiff, Nat.reduceAdd, Nat.reduceSub, Nat.reduceLeDiff, Nat.reduceMul, reduceCtorEq, Nat.reduceBEq, Int.reduceLT, Int.reduceLE, Int.reduceNeg, Int.reduceEq, Int.reduceToNat, Nat.reducePow, Nat.reduceLT, Nat.reduceDiv, Nat.reduceMod, encEs, encPT, encSL, encGE, encE, envL10, i_cartouchelaw1_awake, i_wire_Join, i_wire_Split, i_cartoucheref1_Split, i_cartoucheref1_List, i_cartouchelaw1_same, i_wire_PutEntry, i_cartoucheref1_PutEntry, i_wire_GetEntry, i_cartoucheref1_GetEntry, i_cartoucheref1_Same, g_cartouchelaw1_awake_is, hjn, hli, hpe, hpr, g_wire_Split_is, g_cartoucheref1_Split_is, g_cartouchelaw1_same_is, hgw])
      refine ⟨by omega, by omega, hspl, ?_⟩
      refine vc_loopN 22 7 5 1 (EnI l b at_) (l.length + 1) (by simp [lk]) ⟨0, 0, [], by simp [lk], by simp [lk], by simp [lk], by simp [lk], by simp [lk, hge], by simp [lk, hge], by simp [lk], by simp [lk], by simp [lk], by simp [lk, upd, nxt, hge, ent0], fun _ => ⟨by simp [lk, nxt], by simp [lk, upd, nxt]⟩, by omega, by omega, by simpa using hsz, by simp⟩ ?_
      rintro n s ⟨i, v, acc, h1, h2, h3, h11, h12, h13, h16, h17, h23, h0, h22, g1, g2, g3, g4⟩
      by_cases hi : i < l.length
      · obtain ⟨h22, h7⟩ := h22 hi
        obtain ⟨e, he⟩ : ∃ e, l[i]? = some e := ⟨l[i], by simp [hi]⟩
        have hw : IntKind.i64.wrap ((i : Int) + 1) = ((i + 1 : Nat) : Int) := by rw [wrap_i64 (by omega) (by omega)]; omega
        have hw2 : IntKind.i64.wrap ((l.length : Int) - 1) = ((l.length - 1 : Nat) : Int) := by rw [wrap_i64 (by omega) (by omega)]; omega
        have hgx : (l.map encE)[i]? = some (encE e) := by simp [he]
        have hdr := szEs_get he
        have hs := g_cartoucheref1_PutEntry_is e
        have hn := okEs_get hl he
        have hpl := peS_len hn (by omega)
        have hl0 : (l.length = 0) = False := by simp; intro h; subst h; simp at hi
        rw [if_pos ⟨hn, by omega⟩] at hs
        simp only [encE] at hgx hs
        have hd : l.drop i = e :: l.drop (i + 1) := by
          have := List.drop_eq_getElem_cons hi
          rw [this]; congr 1
          have h5 := List.getElem?_eq_getElem hi
          rw [h5] at he; injection he
        rw [hd, jnF] at g4
        by_cases hp : (peS e).2 = 0
        · have hp0 := pair0 hp
          rw [if_pos hp] at g4
          generalize (peS e).1 = q at hp0 g4 hpl
          by_cases hie0 : i = l.length - 1
          · have hie : (i = l.length - 1) = True := by simp [hie0]
            have hj : jnF l [] = (acc ++ q, 0) := by
              rw [← g4, List.drop_eq_nil_of_le (by omega)]; rfl
            rcases hz : lk s.σ 2 with _ | ⟨v0, it0⟩
            all_goals
              (simp -implicitDefEqProofs +contextual only [go_sem, ↓reduceIte, Nat.reduceEqDiff, Nat.reduceAdd, Nat.reduceSub, Nat.reduceLeDiff, Nat.reduceMul, reduceCtorEq, Nat.reduceBEq, Int.reduceLT, Int.reduceLE, Int.reduceNeg, Int.reduceEq, Int.reduceToNat, Nat.reducePow, Nat.reduceLT, Nat.reduceDiv, Nat.reduceMod, encEs, encPT, encGE, encE, ent0, List.map_nil, envL10, i_cartouchelaw1_same, i_cartoucheref1_PutEntry, i_cartoucheref1_GetEntry, i_cartoucheref1_Same, hsm2, h1, h2, h3, h11, h12, h13, h16, h17, h23, h0, hi, hs0, hge, a1, a3, hs, hp0, hie, hj, hl0, h22, h7, hw, hw2, hgx, hz, lk_upd, nxt, Option.some.injEq, forall_eq'])
              exact ⟨by omega, n - 1, by omega, i + 1, v + 1, acc ++ q, by simp [lk, h1], by simp [lk, h2], by simp [lk, h3], by simp [lk, h11], by simp [lk, h12], by simp [lk, h13], by simp [lk, h16], by simp [lk, h17], by simp [lk], by simp [lk_upd, h0], fun h => absurd h (by omega), by omega, by omega, by rw [List.length_append]; omega, g4⟩
          · have hie : (i = l.length - 1) = False := by simp [hie0]
            rcases hz : lk s.σ 2 with _ | ⟨v0, it0⟩
            all_goals
              (simp -implicitDefEqProofs +contextual only [go_sem, ↓reduceIte, Nat.reduceEqDiff, Nat.reduceAdd, Nat.reduceSub, Nat.reduceLeDiff, Nat.reduceMul, reduceCtorEq, Nat.reduceBEq, Int.reduceLT, Int.reduceLE, Int.reduceNeg, Int.reduceEq, Int.reduceToNat, Nat.reducePow, Nat.reduceLT, Nat.reduceDiv, Nat.reduceMod, encEs, encPT, encGE, encE, ent0, List.map_nil, envL10, i_cartouchelaw1_same, i_cartoucheref1_PutEntry, i_cartoucheref1_GetEntry, i_cartoucheref1_Same, hsm2, h1, h2, h3, h11, h12, h13, h16, h17, h23, h0, hi, hs0, hge, a1, a3, hs, hp0, hie, hl0, h22, h7, hw, hw2, hgx, hz, lk_upd, nxt, Option.some.injEq, forall_eq'])
              exact ⟨by omega, n - 1, by omega, i + 1, v + 1, acc ++ q, by simp [lk, h1], by simp [lk, h2], by simp [lk, h3], by simp [lk, h11], by simp [lk, h12], by simp [lk, h13], by simp [lk, h16], by simp [lk, h17], by simp [lk], by simp [lk_upd, h0], fun _ => ⟨by simp [lk], by simp [lk_upd]⟩, by omega, by omega, by rw [List.length_append]; omega, g4⟩
        · rw [if_neg hp] at g4
          have hj : jnF l [] = ([], (peS e).2) := g4.symm
          rcases hz : lk s.σ 2 with _ | ⟨v0, it0⟩
          all_goals
            (simp -implicitDefEqProofs +contextual only [go_sem, ↓reduceIte, Nat.reduceEqDiff, Nat.reduceAdd, Nat.reduceSub, Nat.reduceLeDiff, Nat.reduceMul, reduceCtorEq, Nat.reduceBEq, Int.reduceLT, Int.reduceLE, Int.reduceNeg, Int.reduceEq, Int.reduceToNat, Nat.reducePow, Nat.reduceLT, Nat.reduceDiv, Nat.reduceMod, encEs, encPT, encGE, encE, ent0, List.map_nil, envL10, i_cartouchelaw1_same, i_cartoucheref1_PutEntry, i_cartoucheref1_GetEntry, i_cartoucheref1_Same, hsm2, h1, h2, h3, h11, h12, h13, h16, h17, h23, h0, hi, hs0, hge, a1, a3, hs, hp, hj, hl0, h22, h7, hw, hw2, hgx, hz, lk_upd, nxt, Option.some.injEq, forall_eq'])
      · by_cases hl1 : l.length = 0
        · have hi0 : ¬ ((i : Int) < 0) := by omega
          have hj : jnF l [] = ([], 0) := by
            obtain rfl : l = [] := List.eq_nil_of_length_eq_zero hl1
            rfl
          rcases hz : lk s.σ 2 with _ | ⟨v0, it0⟩
          all_goals
            (simp -implicitDefEqProofs +contextual only [go_sem, ↓reduceIte, Nat.reduceEqDiff, Nat.reduceAdd, Nat.reduceSub, Nat.reduceLeDiff, Nat.reduceMul, reduceCtorEq, Nat.reduceBEq, Int.reduceLT, Int.reduceLE, Int.reduceNeg, Int.reduceEq, Int.reduceToNat, Nat.reducePow, Nat.reduceLT, Nat.reduceDiv, Nat.reduceMod, encEs, encPT, encGE, encE, ent0, List.map_nil, envL10, i_cartouchelaw1_same, i_cartoucheref1_PutEntry, i_cartoucheref1_GetEntry, i_cartoucheref1_Same, hsm2, h1, h2, h3, h11, h12, h13, h16, h17, h23, h0, hi, hs0, hge, a1, a3, hj, hl1, hi0, hz, lk_upd, nxt, Option.some.injEq, forall_eq'])
        · rcases hz : lk s.σ 2 with _ | ⟨v0, it0⟩
          all_goals
            (simp -implicitDefEqProofs +contextual only [go_sem, ↓reduceIte, Nat.reduceEqDiff, Nat.reduceAdd, Nat.reduceSub, Nat.reduceLeDiff, Nat.reduceMul, reduceCtorEq, Nat.reduceBEq, Int.reduceLT, Int.reduceLE, Int.reduceNeg, Int.reduceEq, Int.reduceToNat, Nat.reducePow, Nat.reduceLT, Nat.reduceDiv, Nat.reduceMod, encEs, encPT, encGE, encE, ent0, List.map_nil, envL10, i_cartouchelaw1_same, i_cartoucheref1_PutEntry, i_cartoucheref1_GetEntry, i_cartoucheref1_Same, hsm2, h1, h2, h3, h11, h12, h13, h16, h17, h23, h0, hi, hs0, hge, a1, a3, hl1, hz, lk_upd, nxt, Option.some.injEq, forall_eq'])
    · have a2 : (b.length : Int) < at_ := by omega
      have a3 : 0 ≤ at_ := by omega
      have a4 : ¬ at_ ≤ (b.length : Int) := by omega
      (refine FC.vc (envL10_ok) F_cartouchelaw1_WireEntries T_cartouchelaw1_WireEntries L_cartouchelaw1_WireEntries ?_; unfold A_cartouchelaw1_WireEntries; simp only [args0, List.map_cons, List.map_nil, List.zipIdx_cons, List.zipIdx_nil, Nat.reduceAdd])
      (simp -implicitDefEqProofs +contextual only [go_sem, ↓reduceIte, Nat.reduceEqDiff, Nat.reduceAdd, Nat.reduceSub, Nat.reduceLeDiff, Nat.reduceMul, reduceCtorEq, Nat.reduceBEq, Int.reduceLT, Int.reduceLE, Int.reduceNeg, Int.reduceEq, Int.reduceToNat, Nat.reducePow, Nat.reduceLT, Nat.reduceDiv, Nat.reduceMod, encEs, encPT, encSL, encGE, encE, envL10, i_cartouchelaw1_awake, i_wire_Join, i_wire_Split, i_cartoucheref1_Split, i_cartoucheref1_List, i_cartouchelaw1_same, i_wire_PutEntry, i_cartoucheref1_PutEntry, i_wire_GetEntry, i_cartoucheref1_GetEntry, i_cartoucheref1_Same, g_cartouchelaw1_awake_is, hjn, hli, hpe, hpr, g_wire_Split_is, g_cartoucheref1_Split_is, g_cartouchelaw1_same_is, hgw])
      refine ⟨by omega, by omega, hspl, ?_⟩
      refine vc_loopN 22 7 5 1 (EnI l b at_) (l.length + 1) (by simp [lk]) ⟨0, 0, [], by simp [lk], by simp [lk], by simp [lk], by simp [lk], by simp [lk, hge], by simp [lk, hge], by simp [lk], by simp [lk], by simp [lk], by simp [lk, upd, nxt, hge, ent0], fun _ => ⟨by simp [lk, nxt], by simp [lk, upd, nxt]⟩, by omega, by omega, by simpa using hsz, by simp⟩ ?_
      rintro n s ⟨i, v, acc, h1, h2, h3, h11, h12, h13, h16, h17, h23, h0, h22, g1, g2, g3, g4⟩
      by_cases hi : i < l.length
      · obtain ⟨h22, h7⟩ := h22 hi
        obtain ⟨e, he⟩ : ∃ e, l[i]? = some e := ⟨l[i], by simp [hi]⟩
        have hw : IntKind.i64.wrap ((i : Int) + 1) = ((i + 1 : Nat) : Int) := by rw [wrap_i64 (by omega) (by omega)]; omega
        have hw2 : IntKind.i64.wrap ((l.length : Int) - 1) = ((l.length - 1 : Nat) : Int) := by rw [wrap_i64 (by omega) (by omega)]; omega
        have hgx : (l.map encE)[i]? = some (encE e) := by simp [he]
        have hdr := szEs_get he
        have hs := g_cartoucheref1_PutEntry_is e
        have hn := okEs_get hl he
        have hpl := peS_len hn (by omega)
        have hl0 : (l.length = 0) = False := by simp; intro h; subst h; simp at hi
        rw [if_pos ⟨hn, by omega⟩] at hs
        simp only [encE] at hgx hs
        have hd : l.drop i = e :: l.drop (i + 1) := by
          have := List.drop_eq_getElem_cons hi
          rw [this]; congr 1
          have h5 := List.getElem?_eq_getElem hi
          rw [h5] at he; injection he
        rw [hd, jnF] at g4
        by_cases hp : (peS e).2 = 0
        · have hp0 := pair0 hp
          rw [if_pos hp] at g4
          generalize (peS e).1 = q at hp0 g4 hpl
          by_cases hie0 : i = l.length - 1
          · have hie : (i = l.length - 1) = True := by simp [hie0]
            have hj : jnF l [] = (acc ++ q, 0) := by
              rw [← g4, List.drop_eq_nil_of_le (by omega)]; rfl
            rcases hz : lk s.σ 2 with _ | ⟨v0, it0⟩
            all_goals
              (simp -implicitDefEqProofs +contextual only [go_sem, ↓reduceIte, Nat.reduceEqDiff, Nat.reduceAdd, Nat.reduceSub, Nat.reduceLeDiff, Nat.reduceMul, reduceCtorEq, Nat.reduceBEq, Int.reduceLT, Int.reduceLE, Int.reduceNeg, Int.reduceEq, Int.reduceToNat, Nat.reducePow, Nat.reduceLT, Nat.reduceDiv, Nat.reduceMod, encEs, encPT, encGE, encE, ent0, List.map_nil, envL10, i_cartouchelaw1_same, i_cartoucheref1_PutEntry, i_cartoucheref1_GetEntry, i_cartoucheref1_Same, hsm2, h1, h2, h3, h11, h12, h13, h16, h17, h23, h0, hi, hs0, hge, a1, a2, a3, a4, hs, hp0, hie, hj, hl0, h22, h7, hw, hw2, hgx, hz, lk_upd, nxt, Option.some.injEq, forall_eq'])
              exact ⟨by omega, n - 1, by omega, i + 1, v + 1, acc ++ q, by simp [lk, h1], by simp [lk, h2], by simp [lk, h3], by simp [lk, h11], by simp [lk, h12], by simp [lk, h13], by simp [lk, h16], by simp [lk, h17], by simp [lk], by simp [lk_upd, h0], fun h => absurd h (by omega), by omega, by omega, by rw [List.length_append]; omega, g4⟩
          · have hie : (i = l.length - 1) = False := by simp [hie0]
            rcases hz : lk s.σ 2 with _ | ⟨v0, it0⟩
            all_goals
              (simp -implicitDefEqProofs +contextual only [go_sem, ↓reduceIte, Nat.reduceEqDiff, Nat.reduceAdd, Nat.reduceSub, Nat.reduceLeDiff, Nat.reduceMul, reduceCtorEq, Nat.reduceBEq, Int.reduceLT, Int.reduceLE, Int.reduceNeg, Int.reduceEq, Int.reduceToNat, Nat.reducePow, Nat.reduceLT, Nat.reduceDiv, Nat.reduceMod, encEs, encPT, encGE, encE, ent0, List.map_nil, envL10, i_cartouchelaw1_same, i_cartoucheref1_PutEntry, i_cartoucheref1_GetEntry, i_cartoucheref1_Same, hsm2, h1, h2, h3, h11, h12, h13, h16, h17, h23, h0, hi, hs0, hge, a1, a2, a3, a4, hs, hp0, hie, hl0, h22, h7, hw, hw2, hgx, hz, lk_upd, nxt, Option.some.injEq, forall_eq'])
              exact ⟨by omega, n - 1, by omega, i + 1, v + 1, acc ++ q, by simp [lk, h1], by simp [lk, h2], by simp [lk, h3], by simp [lk, h11], by simp [lk, h12], by simp [lk, h13], by simp [lk, h16], by simp [lk, h17], by simp [lk], by simp [lk_upd, h0], fun _ => ⟨by simp [lk], by simp [lk_upd]⟩, by omega, by omega, by rw [List.length_append]; omega, g4⟩
        · rw [if_neg hp] at g4
          have hj : jnF l [] = ([], (peS e).2) := g4.symm
          rcases hz : lk s.σ 2 with _ | ⟨v0, it0⟩
          all_goals
            (simp -implicitDefEqProofs +contextual only [go_sem, ↓reduceIte, Nat.reduceEqDiff, Nat.reduceAdd, Nat.reduceSub, Nat.reduceLeDiff, Nat.reduceMul, reduceCtorEq, Nat.reduceBEq, Int.reduceLT, Int.reduceLE, Int.reduceNeg, Int.reduceEq, Int.reduceToNat, Nat.reducePow, Nat.reduceLT, Nat.reduceDiv, Nat.reduceMod, encEs, encPT, encGE, encE, ent0, List.map_nil, envL10, i_cartouchelaw1_same, i_cartoucheref1_PutEntry, i_cartoucheref1_GetEntry, i_cartoucheref1_Same, hsm2, h1, h2, h3, h11, h12, h13, h16, h17, h23, h0, hi, hs0, hge, a1, a2, a3, a4, hs, hp, hj, hl0, h22, h7, hw, hw2, hgx, hz, lk_upd, nxt, Option.some.injEq, forall_eq'])
      · by_cases hl1 : l.length = 0
        · have hi0 : ¬ ((i : Int) < 0) := by omega
          have hj : jnF l [] = ([], 0) := by
            obtain rfl : l = [] := List.eq_nil_of_length_eq_zero hl1
            rfl
          rcases hz : lk s.σ 2 with _ | ⟨v0, it0⟩
          all_goals
            (simp -implicitDefEqProofs +contextual only [go_sem, ↓reduceIte, Nat.reduceEqDiff, Nat.reduceAdd, Nat.reduceSub, Nat.reduceLeDiff, Nat.reduceMul, reduceCtorEq, Nat.reduceBEq, Int.reduceLT, Int.reduceLE, Int.reduceNeg, Int.reduceEq, Int.reduceToNat, Nat.reducePow, Nat.reduceLT, Nat.reduceDiv, Nat.reduceMod, encEs, encPT, encGE, encE, ent0, List.map_nil, envL10, i_cartouchelaw1_same, i_cartoucheref1_PutEntry, i_cartoucheref1_GetEntry, i_cartoucheref1_Same, hsm2, h1, h2, h3, h11, h12, h13, h16, h17, h23, h0, hi, hs0, hge, a1, a2, a3, a4, hj, hl1, hi0, hz, lk_upd, nxt, Option.some.injEq, forall_eq'])
        · rcases hz : lk s.σ 2 with _ | ⟨v0, it0⟩
          all_goals
            (simp -implicitDefEqProofs +contextual only [go_sem, ↓reduceIte, Nat.reduceEqDiff, Nat.reduceAdd, Nat.reduceSub, Nat.reduceLeDiff, Nat.reduceMul, reduceCtorEq, Nat.reduceBEq, Int.reduceLT, Int.reduceLE, Int.reduceNeg, Int.reduceEq, Int.reduceToNat, Nat.reducePow, Nat.reduceLT, Nat.reduceDiv, Nat.reduceMod, encEs, encPT, encGE, encE, ent0, List.map_nil, envL10, i_cartouchelaw1_same, i_cartoucheref1_PutEntry, i_cartoucheref1_GetEntry, i_cartoucheref1_Same, hsm2, h1, h2, h3, h11, h12, h13, h16, h17, h23, h0, hi, hs0, hge, a1, a2, a3, a4, hl1, hz, lk_upd, nxt, Option.some.injEq, forall_eq'])
end Go.Proofs.Ytfmeedphpcjkmaa.Ag
