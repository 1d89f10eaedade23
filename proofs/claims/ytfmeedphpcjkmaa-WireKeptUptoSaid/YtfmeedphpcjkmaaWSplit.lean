/- All entries: read, written, compared. -/
import Derived.Test.YtfmeedphpcjkmaaWE
set_option linter.unusedVariables false
set_option linter.unusedSimpArgs false
set_option maxRecDepth 100000
set_option maxHeartbeats 2000000
namespace Go.Proofs.Ytfmeedphpcjkmaa.Ag

/-- All entries from a place on; so many rounds at most. -/
def spF (b : List UInt8) : Nat → Nat → List Ent → List Ent × Nat
  | 0, _, _ => ([], 99)
  | f + 1, at_, acc => if at_ < b.length then (if (geAt b at_).2.2 = 0 then spF b f (geAt b at_).2.1 (acc ++ [(geAt b at_).1]) else ([], (geAt b at_).2.2)) else (acc, 0)
def spL (b : List UInt8) : List Ent × Nat := spF b (b.length + 1) 0 []
def encSL (r : List Ent × Nat) : IV := .tup [.slice (r.1.map encE), .int .i64 r.2]
theorem encE_one (e : Ent) : oneSize 4 [encE e] = true := rfl
theorem oneSize_ents (l : List Ent) : oneSize 4 (l.map encE) = true := oneSize_map (f := encE) (sz := 4) (fun e => ⟨rfl, fun ys h => by simp [encE] at h⟩) l
theorem geAt_next {b : List UInt8} {k : Nat} (h : (geAt b k).2.2 = 0) : k < (geAt b k).2.1 ∧ (geAt b k).2.1 ≤ b.length := by
  unfold geAt at h ⊢
  by_cases h1 : (gtAt b k).2.2.2 = 0
  · rw [if_pos h1] at h ⊢
    have hp : k < (gtAt b k).2.2.1 ∧ (gtAt b k).2.2.1 ≤ b.length := by
      unfold gtAt gtT at h1 ⊢
      generalize hg : gvAt b k = g at h1 ⊢
      obtain ⟨n, p, e⟩ := g
      simp only at h1 ⊢
      split at h1
      · rename_i he; subst he
        have := gvAt_next hg
        split at h1
        · simp at h1
        · split at h1
          · rename_i h2 h3; simp only [if_true, if_neg h2, h3]; omega
          · simp at h1
      · simp at h1; contradiction
    generalize (gtAt b k).1 = num at h ⊢
    generalize (gtAt b k).2.1 = kind at h ⊢
    generalize (gtAt b k).2.2.1 = p at h hp ⊢
    have hv : ∀ g : Nat × Nat × Nat, (g.2.2 = 0 → p < g.2.1 ∧ g.2.1 ≤ b.length) → (fin3 num kind g).2.2 = 0 → k < (fin3 num kind g).2.1 ∧ (fin3 num kind g).2.1 ≤ b.length := by
      intro g hg h
      unfold fin3 at h ⊢
      by_cases h2 : g.2.2 = 0
      · rw [if_pos h2]; have := hg h2; simp only; omega
      · rw [if_neg h2] at h; exact absurd h h2
    have hr : ∀ s, 0 < s → (rdAt b p s).2.2 = 0 → p < (rdAt b p s).2.1 ∧ (rdAt b p s).2.1 ≤ b.length := by
      intro s hs h
      unfold rdAt at h ⊢
      rw [if_pos (by omega)] at h ⊢
      simp only [Int.toNat_natCast] at h ⊢
      split at h
      · simp at h
      · rename_i h2; rw [if_neg h2]; simp only; omega
    unfold restAt at h ⊢
    split at h
    · rename_i h2; rw [if_pos h2]
      refine hv _ (fun h3 => ?_) h
      generalize hg : gvAt b p = g at h3 ⊢
      obtain ⟨n, q, e⟩ := g
      simp only at h3; subst h3
      have := gvAt_next hg; simp only; omega
    · rename_i h2; rw [if_neg h2]
      split at h
      · rename_i h3; rw [if_pos h3]; exact hv _ (hr 8 (by omega)) h
      · rename_i h3; rw [if_neg h3]
        split at h
        · rename_i h4; rw [if_pos h4]; exact hv _ (hr 4 (by omega)) h
        · rename_i h4; rw [if_neg h4]
          unfold finC at h ⊢
          by_cases h5 : (gcAt b p).2.2 = 0
          · rw [if_pos h5]
            unfold gcAt gcT at h5 ⊢
            generalize hg : spAt b p = g at h5 ⊢
            obtain ⟨x, y, e⟩ := g
            simp only at h5 ⊢
            split at h5
            · rename_i he; subst he
              have := spAt_ok hg
              simp only [if_true]; omega
            · rename_i he; simp at h5; exact absurd h5 he
          · rw [if_neg h5] at h; exact absurd h h5
  · rw [if_neg h1] at h; exact absurd h h1
def envSp : Env := { fc := [(i_wire_GetEntry, g_wire_GetEntry)] }
theorem envSp_ok : EnvOk Try.prog envSp := EnvOk.none.addF g_wire_GetEntry_ok
def SpI (b : List UInt8) (n : Nat) (s : St) : Prop := ∃ (acc : List Ent) (v at_ : Nat), lk s.ρ 0 = some (.iv (.slice (b.map encB))) ∧ lk s.ρ 4 = some (.lst 7 v) ∧ lk s.ρ 5 = some (.iv (.int .i64 (at_ : Int))) ∧
  lk s.σ 7 = some (v, .list 60 4 (acc.map encE)) ∧ at_ ≤ b.length ∧ b.length < at_ + n ∧ acc.length ≤ at_ ∧ spF b n at_ acc = spL b
/-- A round's law. -/
theorem spF_round {b : List UInt8} {n at_ : Nat} {acc : List Ent} (g1 : at_ ≤ b.length) (g2 : b.length < at_ + n) (g4 : spF b n at_ acc = spL b) :
    (at_ < b.length → (¬(geAt b at_).2.2 = 0 → spL b = ([], (geAt b at_).2.2)) ∧ ((geAt b at_).2.2 = 0 → spF b (n - 1) (geAt b at_).2.1 (acc ++ [(geAt b at_).1]) = spL b)) ∧ (¬ at_ < b.length → spL b = (acc, 0)) := by
  obtain ⟨f, rfl⟩ : ∃ f, n = f + 1 := ⟨n - 1, by omega⟩
  rw [spF] at g4
  refine ⟨fun h => ?_, fun h => ?_⟩
  · rw [if_pos h] at g4
    refine ⟨fun h1 => ?_, fun h1 => ?_⟩
    · rw [if_neg h1] at g4; exact g4.symm
    · rw [if_pos h1] at g4; exact g4
  · rw [if_neg h] at g4; exact g4.symm
theorem SpI_next {b : List UInt8} {n at_ v : Nat} {acc : List Ent} {s : St} (g1 : at_ ≤ b.length) (g2 : b.length < at_ + n) (g3 : acc.length ≤ at_) (g4 : spF b n at_ acc = spL b) (hlt : at_ < b.length) (he : (geAt b at_).2.2 = 0)
    (h0 : lk s.ρ 0 = some (.iv (.slice (b.map encB)))) (h4 : lk s.ρ 4 = some (.lst 7 v)) (h5 : lk s.ρ 5 = some (.iv (.int .i64 ((geAt b at_).2.1 : Int)))) (h7 : lk s.σ 7 = some (v, .list 60 4 (acc.map encE ++ [encE (geAt b at_).1]))) :
    ∃ n', n' < n ∧ SpI b n' s := by
  have hn := geAt_next he
  exact ⟨n - 1, by omega, acc ++ [(geAt b at_).1], v, (geAt b at_).2.1, h0, h4, h5, by rw [h7]; simp, hn.2, by omega, by simp; omega, ((spF_round g1 g2 g4).1 hlt).2 he⟩
theorem split_fc (b : List UInt8) (hb : b.length ≤ 100000000000) : FC Try.prog i_wire_Split [.slice (b.map encB)] (· = encSL (spL b)) := by
  have hb' : b.length ≤ 140737488351232 := by omega
  (refine FC.vc (envSp_ok) F_wire_Split T_wire_Split L_wire_Split ?_; unfold A_wire_Split; simp only [args0, List.map_cons, List.map_nil, List.zipIdx_cons, List.zipIdx_nil, Nat.reduceAdd])
  (simp -implicitDefEqProofs +contextual (maxSteps := 8000000) only [go_sem, ↓reduceIte, Nat.reduceEqDiff, Nat.reduceAdd, Nat.reduceSub, Nat.reduceLeDiff, Nat.reduceMul, reduceCtorEq, Nat.reduceBEq, Int.reduceLT, Int.reduceLE, Int.reduceNeg, Int.reduceEq, Int.reduceToNat, Nat.reducePow, Nat.reduceLT, Nat.reduceDiv, Nat.reduceMod, envSp, i_wire_GetEntry, g_wire_GetEntry_is, encGE, encE_one])
  refine vc_loopN 4 7 60 4 (SpI b) (b.length + 1) (by simp [lk]) ⟨[], 0, 0, by simp [lk], by simp [lk, nxt], by simp [lk], by simp [lk, upd, nxt], by omega, by omega, by simp, rfl⟩ ?_
  rintro n s ⟨acc, v, at_, h0, h4, h5, h7, g1, g2, g3, g4⟩
  have hr := spF_round g1 g2 g4
  rcases hz : lk s.σ 0 with _ | ⟨v0, it0⟩
  all_goals
    (simp -implicitDefEqProofs +contextual (maxSteps := 8000000) only [go_sem, ↓reduceIte, Nat.reduceEqDiff, Nat.reduceAdd, Nat.reduceSub, Nat.reduceLeDiff, Nat.reduceMul, reduceCtorEq, Nat.reduceBEq, Int.reduceLT, Int.reduceLE, Int.reduceNeg, Int.reduceEq, Int.reduceToNat, Nat.reducePow, Nat.reduceLT, Nat.reduceDiv, Nat.reduceMod, envSp, i_wire_GetEntry, g_wire_GetEntry_is, encGE, encE, encE_one, h0, h4, h5, h7, hz, lk_upd, nxt, hb'])
    refine ⟨fun hlt => ⟨fun he => ?_, fun he => ⟨by omega, ?_⟩⟩, fun hlt => ⟨by omega, oneSize_ents acc, by omega, ?_⟩⟩
    · rw [(hr.1 hlt).1 he]; rfl
    · exact SpI_next (v := v + 1) g1 g2 g3 g4 hlt he (by simp [lk, h0]) (by simp [lk]) (by simp [lk]) (by simp [lk_upd, encE])
    · rw [hr.2 hlt]; rfl
def envRGE : Env := { fc := [(i_cartoucheref1_GetTag, g_cartoucheref1_GetTag), (i_cartoucheref1_Rest, g_cartoucheref1_Rest)] }
theorem envRGE_ok : EnvOk Try.prog envRGE := (EnvOk.none.addF g_cartoucheref1_Rest_ok).addF g_cartoucheref1_GetTag_ok
theorem gtAt_place {b : List UInt8} {k : Nat} (h : (gtAt b k).2.2.2 = 0) : (gtAt b k).2.2.1 ≤ b.length := by
  unfold gtAt gtT at h ⊢
  generalize hg : gvAt b k = g at h ⊢
  obtain ⟨n, p, e⟩ := g
  simp only at h ⊢
  split at h
  · rename_i he; subst he
    have := gvAt_next hg
    split at h
    · simp at h
    · split at h
      · rename_i h2 h3; simp only [if_true, if_neg h2, h3]; omega
      · simp at h
  · simp at h; contradiction
theorem ref_getEntry_fc (b : List UInt8) (a : Nat) (ha : a ≤ b.length) (hb : b.length ≤ 140737488351232) : FC Try.prog i_cartoucheref1_GetEntry [.slice (b.map encB), .int .i64 a] (· = encGE (geAt b a)) := by
  (refine FC.vc (envRGE_ok) F_cartoucheref1_GetEntry T_cartoucheref1_GetEntry L_cartoucheref1_GetEntry ?_; unfold A_cartoucheref1_GetEntry; simp only [args0, List.map_cons, List.map_nil, List.zipIdx_cons, List.zipIdx_nil, Nat.reduceAdd])
  (simp -implicitDefEqProofs +contextual (maxSteps := 8000000) only [go_sem, ↓reduceIte, Nat.reduceEqDiff, Nat.reduceAdd, Nat.reduceSub, Nat.reduceLeDiff, Nat.reduceMul, reduceCtorEq, Nat.reduceBEq, Int.reduceLT, Int.reduceLE, Int.reduceNeg, Int.reduceEq, Int.reduceToNat, Nat.reducePow, Nat.reduceLT, Nat.reduceDiv, Nat.reduceMod, encGT, encGE, encE, envRGE, i_cartoucheref1_GetTag, i_cartoucheref1_Rest, g_cartoucheref1_GetTag_is, g_cartoucheref1_Rest_is])
  refine ⟨⟨ha, hb⟩, fun h => ?_, fun h => ⟨⟨gtAt_place h, hb⟩, ?_⟩⟩
  · simp [geAt, h, ent0]
  · simp [geAt, h]
def envRPE : Env := { fc := [(i_cartoucheref1_Fine, g_cartoucheref1_Fine), (i_cartoucheref1_PutWord, g_cartoucheref1_PutWord), (i_cartoucheref1_PutChunk, g_cartoucheref1_PutChunk)], oc := [(i_cartoucheref1_PutTag, g_cartoucheref1_PutTag), (i_cartoucheref1_PutVarint, g_cartoucheref1_PutVarint)] }
theorem envRPE_ok : EnvOk Try.prog envRPE := ((((EnvOk.none.addF g_cartoucheref1_PutChunk_ok).addF g_cartoucheref1_PutWord_ok).addF g_cartoucheref1_Fine_ok).addO g_cartoucheref1_PutVarint_ok).addO g_cartoucheref1_PutTag_ok
theorem ref_putEntry_fc (e : Ent) (hn : e.n < 18446744073709551616) (hb : e.b.length ≤ 140737488351232) : FC Try.prog i_cartoucheref1_PutEntry [encE e] (· = encPT (peS e)) := by
  have hfin := g_cartoucheref1_Fine_is e
  obtain ⟨num, kind, n, b⟩ := e
  simp only at hn hb
  (refine FC.vc (envRPE_ok) F_cartoucheref1_PutEntry T_cartoucheref1_PutEntry L_cartoucheref1_PutEntry ?_; unfold A_cartoucheref1_PutEntry; simp only [args0, List.map_cons, List.map_nil, List.zipIdx_cons, List.zipIdx_nil, Nat.reduceAdd])
  simp only [encE] at hfin
  (simp -implicitDefEqProofs +contextual (maxSteps := 8000000) only [go_sem, ↓reduceIte, Nat.reduceEqDiff, Nat.reduceAdd, Nat.reduceSub, Nat.reduceLeDiff, Nat.reduceMul, reduceCtorEq, Nat.reduceBEq, Int.reduceLT, Int.reduceLE, Int.reduceNeg, Int.reduceEq, Int.reduceToNat, Nat.reducePow, Nat.reduceLT, Nat.reduceDiv, Nat.reduceMod, encE, envRPE, i_cartoucheref1_Fine, i_cartoucheref1_PutWord, i_cartoucheref1_PutChunk, i_cartoucheref1_PutTag, i_cartoucheref1_PutVarint, hfin, g_cartoucheref1_PutWord_is, g_cartoucheref1_PutChunk_is, g_cartoucheref1_PutTag_is, g_cartoucheref1_PutVarint_is])
  by_cases hnum : num < 1 ∨ 536870911 < num
  · have hp : ptS num kind = ([], 5) := by simp [ptS, hnum]
    simp [hp, peS, hnum, encPT]
  cases hk : isK kind with
  | false =>
    have hp : ptS num kind = ([], 6) := by simp [ptS, hnum, hk]
    simp [hp, peS, hnum, hk, encPT]
  | true =>
    have hpt : ∀ k, isK k = true → ptS num k = (pvL (num * 8 + k).toNat, 0) := by intro k h; simp [ptS, hnum, h]
    have hkk : kind = 0 ∨ kind = 1 ∨ kind = 2 ∨ kind = 5 := by simpa [isK, or_assoc] using hk
    have hl := tagL_len (n := num) (k := kind) (by omega) hk
    have hw8 : (wdL n 8).length = 8 := wdL_len n 8
    have hw4 : (wdL n 4).length = 4 := wdL_len n 4
    have hv := pvL_len10 (n := n) hn
    have hv2 := pvL_len10 (n := b.length) (by omega)
    have hnn : (1 ≤ num) ∧ num ≤ 536870911 := by omega
    have hpc : (pcL b).length = (pvL b.length).length + b.length := by simp [pcL]
    have hn' : (n : Int) < 18446744073709551616 := by omega
    rw [hpt kind hk]
    refine ⟨fun h => absurd rfl h, fun _ => ⟨fun hf => ?_, fun hf => ?_⟩⟩
    · simp [peS, hnum, hk, hf, encPT]
    · rcases hkk with rfl | rfl | rfl | rfl
      all_goals
        try rw [hpt _ hk]
        simp [peS, hnum, hk, hf, bodyE, tagE, encPT] at hl ⊢
        omega
/-! ### lists of entries -/
def encEs (l : List Ent) : IV := .slice (l.map encE)
def unEs : List IV → Option (List Ent)
  | [] => some []
  | x :: l => match decE x, unEs l with
    | some e, some es => some (e :: es)
    | _, _ => none
def decEs : IV → Option (List Ent)
  | .slice l => unEs l
  | _ => none
theorem unEs_enc : ∀ (l : List Ent), unEs (l.map encE) = some l
  | [] => rfl
  | e :: l => by simp [unEs, decE_enc, unEs_enc l]
theorem unEs_inv : ∀ {x : List IV} {l : List Ent}, unEs x = some l → x = l.map encE
  | [], l, h => by simp [unEs] at h; subst h; rfl
  | y :: x, l, h => by
    simp only [unEs] at h
    split at h
    · rename_i e es h1 h2
      injection h with h; subst h
      simp [decE_enc_inv h1, unEs_inv h2]
    · cases h
theorem decEs_enc (l : List Ent) : decEs (encEs l) = some l := unEs_enc l
theorem decEs_enc_inv {x : IV} {l : List Ent} (h : decEs x = some l) : x = encEs l := by
  unfold decEs at h
  split at h
  · exact congrArg IV.slice (unEs_inv h)
  · cases h
/-- All entries' bytes, or the first error. -/
def jnF : List Ent → List UInt8 → List UInt8 × Nat
  | [], acc => (acc, 0)
  | e :: l, acc => if (peS e).2 = 0 then jnF l (acc ++ (peS e).1) else ([], (peS e).2)
def szEs (l : List Ent) : Nat := (l.map fun e => e.b.length + 30).sum
def okEs (l : List Ent) : Bool := l.all (fun e => decide (e.n < 18446744073709551616)) && decide (szEs l ≤ 1000000000)
theorem peS_len {e : Ent} (hn : e.n < 18446744073709551616) (hb : e.b.length ≤ 1000000000) : (peS e).1.length ≤ e.b.length + 30 := by
  obtain ⟨num, kind, n, b⟩ := e
  simp only at hn hb
  unfold peS
  by_cases hnum : num < 1 ∨ 536870911 < num
  · simp [hnum]
  cases hk : isK kind with
  | false => simp [hnum]
  | true =>
    have hl := tagL_len (n := num) (k := kind) (by omega) hk
    have hw8 : (wdL n 8).length = 8 := wdL_len n 8
    have hw4 : (wdL n 4).length = 4 := wdL_len n 4
    have hv := pvL_len10 (n := n) hn
    have hv2 := pvL_len10 (n := b.length) (by omega)
    have hpc : (pcL b).length = (pvL b.length).length + b.length := by simp [pcL]
    simp only [hnum, if_false, if_true]
    split
    · have h5 : (bodyE { num := num, kind := kind, n := n, b := b }).length ≤ b.length + 10 := by
        unfold bodyE
        simp only
        repeat' split
        all_goals omega
      simp only [List.length_append, tagE]
      omega
    · simp
end Go.Proofs.Ytfmeedphpcjkmaa.Ag
