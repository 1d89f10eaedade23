/- The walk over entries, one step. -/
import Derived.Test.YtfmeedphpcjkmaaWG
set_option linter.unusedVariables false
set_option linter.unusedSimpArgs false
set_option maxRecDepth 100000
set_option maxHeartbeats 2000000
namespace Go.Proofs.Ytfmeedphpcjkmaa.Ag

/-- An entry. -/
structure Ent where
  num : Int
  kind : Int
  n : Nat
  b : List UInt8
  deriving DecidableEq
def encE (e : Ent) : IV := .agg [.int .i64 e.num, .int .i64 e.kind, .int .u64 e.n, .slice (e.b.map encB)]

def fineE (e : Ent) : Bool := if e.kind = 2 then decide (e.n = 0) else decide (e.b.length = 0) && (!decide (e.kind = 5) || decide (e.n < 4294967296))
def bodyE (e : Ent) : List UInt8 := if e.kind = 0 then pvL e.n else if e.kind = 1 then wdL e.n 8 else if e.kind = 5 then wdL e.n 4 else pcL e.b
def tagE (e : Ent) : List UInt8 := pvL (e.num * 8 + e.kind).toNat
def peS (e : Ent) : List UInt8 × Nat :=
  if e.num < 1 ∨ 536870911 < e.num then ([], 5) else if isK e.kind then (if fineE e then (tagE e ++ bodyE e, 0) else ([], 7)) else ([], 6)

def envPT : Env := { fc := [(i_wire_isKind, g_wire_isKind)], oc := [(i_wire_PutVarint, g_wire_PutVarint)] }
theorem envPT_ok : EnvOk Try.prog envPT := (EnvOk.none.addF g_wire_isKind_ok).addO g_wire_PutVarint_ok
theorem tag_wrap {n k : Int} (hn : 1 ≤ n ∧ n ≤ 536870911) (hk : isK k = true) : IntKind.u64.wrap (IntKind.u64.wrap (IntKind.u64.wrap n * 8) + IntKind.u64.wrap k) = ((n * 8 + k).toNat : Int) := by
  have hk' := isK_le hk
  rw [wrap_u64 (n := n) (by omega) (by omega), wrap_u64 (n := k) (by omega) (by omega), wrap_u64 (n := n * 8) (by omega) (by omega), wrap_u64 (by omega) (by omega)]; omega
theorem tagL_len {n k : Int} (hn : 1 ≤ n ∧ n ≤ 536870911) (hk : isK k = true) : (pvL (n * 8 + k).toNat).length ≤ 5 := by
  have := isK_le hk
  exact pvL_len 4 (by
    have e : (128 : Nat) ^ (4 + 1) = 34359738368 := by decide
    omega)
theorem ptS_len (n k : Int) : (ptS n k).1.length ≤ 5 := by
  unfold ptS
  split
  · simp
  · split
    · exact tagL_len (by omega) (by assumption)
    · simp
theorem putTag_oc2 (n k : Int) : OC Try.prog i_wire_PutTag [.int .i64 n, .int .i64 k] 5 1 ((ptS n k).1.map encB) [.int .i64 (ptS n k).2] := by
  (refine OC.vc (envPT_ok) F_wire_PutTag T_wire_PutTag L_wire_PutTag ?_; unfold A_wire_PutTag; simp only [args0, List.map_cons, List.map_nil, List.zipIdx_cons, List.zipIdx_nil, Nat.reduceAdd])
  (simp -implicitDefEqProofs only [go_sem, ↓reduceIte, Nat.reduceEqDiff, Nat.reduceAdd, Nat.reduceSub, Nat.reduceLeDiff, Nat.reduceMul, reduceCtorEq, Nat.reduceBEq, Int.reduceLT, Int.reduceLE, Int.reduceNeg, Int.reduceEq, Int.reduceToNat, Nat.reducePow, Nat.reduceLT, Nat.reduceDiv, Nat.reduceMod, envPT, i_wire_isKind, i_wire_PutVarint, g_wire_isKind_is, g_wire_PutVarint_is])
  refine ⟨fun h => ?_, fun h => ⟨fun hk => ?_, fun hk => ?_⟩⟩
  · simp [ptS, h]
  · simp [ptS, hk, show ¬ (n < 1 ∨ 536870911 < n) by omega]
  · rw [tag_wrap h hk]
    have := isK_le hk
    refine ⟨by omega, ?_⟩
    simp [ptS, hk, show ¬ (n < 1 ∨ 536870911 < n) by omega, show max (n * 8 + k) 0 = n * 8 + k by omega]
def g_wire_PutTag : List IV → Option (Nat × Nat × List IV × List IV)
  | [.int .i64 n, .int .i64 k] => some (5, 1, (ptS n k).1.map encB, [.int .i64 (ptS n k).2])
  | _ => none
theorem g_wire_PutTag_is (n k : Int) : g_wire_PutTag [.int .i64 n, .int .i64 k] = some (5, 1, (ptS n k).1.map encB, [.int .i64 (ptS n k).2]) := rfl
theorem g_wire_PutTag_ok : ∀ xs e sz zs rets, g_wire_PutTag xs = some (e, sz, zs, rets) → OC Try.prog i_wire_PutTag xs e sz zs rets := by
  intro xs e sz zs rets h
  unfold g_wire_PutTag at h
  split at h
  · simp only [Option.some.injEq, Prod.mk.injEq] at h
    obtain ⟨rfl, rfl, rfl, rfl⟩ := h
    exact putTag_oc2 _ _
  · cases h

def envPE : Env := { fc := [(i_wire_word, g_wire_word)], oc := [(i_wire_PutTag, g_wire_PutTag)], lc := [(i_wire_varint, g_wire_varint)] }
theorem envPE_ok : EnvOk Try.prog envPE := ((EnvOk.none.addF g_wire_word_ok).addO g_wire_PutTag_ok).addL g_wire_varint_ok
theorem putEntry_fc (e : Ent) (hn : e.n < 18446744073709551616) (hb : e.b.length ≤ 140737488351232) : FC Try.prog i_wire_PutEntry [encE e] (· = encPT (peS e)) := by
  obtain ⟨num, kind, n, b⟩ := e
  simp only at hn hb
  (refine FC.vc (envPE_ok) F_wire_PutEntry T_wire_PutEntry L_wire_PutEntry ?_; unfold A_wire_PutEntry; simp only [args0, List.map_cons, List.map_nil, List.zipIdx_cons, List.zipIdx_nil, Nat.reduceAdd])
  (simp -implicitDefEqProofs +contextual (maxSteps := 8000000) only [go_sem, ↓reduceIte, Nat.reduceEqDiff, Nat.reduceAdd, Nat.reduceSub, Nat.reduceLeDiff, Nat.reduceMul, reduceCtorEq, Nat.reduceBEq, Int.reduceLT, Int.reduceLE, Int.reduceNeg, Int.reduceEq, Int.reduceToNat, Nat.reducePow, Nat.reduceLT, Nat.reduceDiv, Nat.reduceMod, encE, envPE, i_wire_word, i_wire_PutTag, i_wire_varint, g_wire_word_is, g_wire_PutTag_is, g_wire_varint_is])
  by_cases hnum : num < 1 ∨ 536870911 < num
  · have hp : ptS num kind = ([], 5) := by simp [ptS, hnum]
    simp [hp, peS, hnum, encPT]
  cases hk : isK kind with
  | false =>
    have hp : ptS num kind = ([], 6) := by simp [ptS, hnum, hk]
    simp [hp, peS, hnum, hk, encPT]
  | true =>
    have hpt : ∀ k, isK k = true → ptS num k = (pvL (num * 8 + k).toNat, 0) := by intro k h; simp [ptS, hnum, h]
    have hkk : kind = 0 ∨ kind = 1 ∨ kind = 2 ∨ kind = 5 := by simpa [isK, or_assoc] using hk
    have hl := tagL_len (n := num) (k := kind) (by omega) hk
    have hw8 : (wdL n 8).length = 8 := wdL_len n 8
    have hw4 : (wdL n 4).length = 4 := wdL_len n 4
    have hv := pvL_len10 (n := n) hn
    have hv2 := pvL_len10 (n := b.length) (by omega)
    have hwr : IntKind.u64.wrap (b.length : Int) = b.length := wrap_u64 (by omega) (by omega)
    have hnn : (1 ≤ num) ∧ num ≤ 536870911 := by omega
    rcases hkk with rfl | rfl | rfl | rfl
    · by_cases hb0 : b = []
      · simp [hpt _ hk, peS, hnum, hk, fineE, bodyE, tagE, encPT, hb0] at hl ⊢; omega
      · have : 0 < b.length := List.length_pos_iff.2 hb0
        simp [hpt _ hk, peS, hnum, hk, fineE, bodyE, tagE, encPT, hb0, this]
    · by_cases hb0 : b = []
      · simp [hpt _ hk, peS, hnum, hk, fineE, bodyE, tagE, encPT, hb0] at hl ⊢; omega
      · have : 0 < b.length := List.length_pos_iff.2 hb0
        simp [hpt _ hk, peS, hnum, hk, fineE, bodyE, tagE, encPT, hb0, this]
    · by_cases hn0 : n = 0
      · simp [hpt _ hk, peS, hnum, hk, fineE, bodyE, tagE, encPT, hn0, pcL, hwr] at hl ⊢; omega
      · simp [hpt _ hk, peS, hnum, hk, fineE, bodyE, tagE, encPT, hn0]
    · by_cases hb0 : b = []
      · by_cases hn4 : n < 4294967296
        · have : n / 4294967296 = 0 := by omega
          simp [hpt _ hk, peS, hnum, hk, fineE, bodyE, tagE, encPT, hb0, hn4, this] at hl ⊢; omega
        · have : ¬ n / 4294967296 = 0 := by omega
          simp [hpt _ hk, peS, hnum, hk, fineE, bodyE, tagE, encPT, hb0, hn4, this]
      · have : 0 < b.length := List.length_pos_iff.2 hb0
        simp [hpt _ hk, peS, hnum, hk, fineE, bodyE, tagE, encPT, hb0, this]
end Go.Proofs.Ytfmeedphpcjkmaa.Ag
set_option linter.unusedVariables false
set_option linter.unusedSimpArgs false
set_option maxRecDepth 100000
set_option maxHeartbeats 2000000
namespace Go.Proofs.Ytfmeedphpcjkmaa.Ag

def decE : IV → Option Ent
  | .agg [.int .i64 num, .int .i64 kind, .int .u64 n, .slice bs] => if 0 ≤ n then (match unBs bs with
      | some b => some ⟨num, kind, n.toNat, b⟩
      | none => none) else none
  | _ => none
theorem decE_enc (e : Ent) : decE (encE e) = some e := by
  obtain ⟨num, kind, n, b⟩ := e
  simp [encE, decE, unBs_enc]
theorem decE_enc_inv {x : IV} {e : Ent} (h : decE x = some e) : x = encE e := by
  unfold decE at h
  split at h
  · split at h
    · rename_i h0
      split at h
      · rename_i b hb
        injection h with h; subst h
        have := unBs_enc_inv hb; subst this
        simp [encE]; omega
      · cases h
    · cases h
  · cases h

def ent0 : Ent := ⟨0, 0, 0, []⟩
def fin3 (num kind : Nat) (g : Nat × Nat × Nat) : Ent × Nat × Nat := if g.2.2 = 0 then (⟨num, kind, g.1, []⟩, g.2.1, 0) else (ent0, 0, g.2.2)
def finC (num kind : Nat) (g : List UInt8 × Nat × Nat) : Ent × Nat × Nat := if g.2.2 = 0 then (⟨num, kind, 0, g.1⟩, g.2.1, 0) else (ent0, 0, g.2.2)
def restAt (b : List UInt8) (num kind next : Nat) : Ent × Nat × Nat :=
  if kind = 0 then fin3 num kind (gvAt b next) else if kind = 1 then fin3 num kind (rdAt b next 8) else if kind = 5 then fin3 num kind (rdAt b next 4) else finC num kind (gcAt b next)
def geAt (b : List UInt8) (k : Int) : Ent × Nat × Nat :=
  if (gtAt b k).2.2.2 = 0 then restAt b (gtAt b k).1 (gtAt b k).2.1 (gtAt b k).2.2.1 else (ent0, 0, (gtAt b k).2.2.2)
def encGE (r : Ent × Nat × Nat) : IV := .tup [encE r.1, .int .i64 r.2.1, .int .i64 r.2.2]

def envGE : Env := { fc := [(i_wire_GetTag, g_wire_GetTag), (i_wire_GetVarint, g_wire_GetVarint), (i_wire_read, g_wire_read), (i_wire_GetChunk, g_wire_GetChunk)] }
theorem envGE_ok : EnvOk Try.prog envGE := (((EnvOk.none.addF g_wire_GetChunk_ok).addF g_wire_read_ok).addF g_wire_GetVarint_ok).addF g_wire_GetTag_ok
theorem getEntry_fc (b : List UInt8) (k : Int) (hb : b.length ≤ 140737488351232) : FC Try.prog i_wire_GetEntry [.slice (b.map encB), .int .i64 k] (· = encGE (geAt b k)) := by
  (refine FC.vc (envGE_ok) F_wire_GetEntry T_wire_GetEntry L_wire_GetEntry ?_; unfold A_wire_GetEntry; simp only [args0, List.map_cons, List.map_nil, List.zipIdx_cons, List.zipIdx_nil, Nat.reduceAdd])
  (simp -implicitDefEqProofs +contextual (maxSteps := 8000000) only [go_sem, ↓reduceIte, Nat.reduceEqDiff, Nat.reduceAdd, Nat.reduceSub, Nat.reduceLeDiff, Nat.reduceMul, reduceCtorEq, Nat.reduceBEq, Int.reduceLT, Int.reduceLE, Int.reduceNeg, Int.reduceEq, Int.reduceToNat, Nat.reducePow, Nat.reduceLT, Nat.reduceDiv, Nat.reduceMod, encGT, encGV, encGC, envGE, i_wire_GetTag, i_wire_GetVarint, i_wire_read, i_wire_GetChunk, g_wire_GetTag_is, g_wire_GetVarint_is, g_wire_read_is, g_wire_GetChunk_is])
  simp +contextual [encGE, geAt, restAt, fin3, finC, ent0, encE, hb]
def envRest : Env := { fc := [(i_cartoucheref1_GetVarint, g_cartoucheref1_GetVarint), (i_cartoucheref1_Word, g_cartoucheref1_Word), (i_cartoucheref1_GetChunk, g_cartoucheref1_GetChunk)] }
theorem envRest_ok : EnvOk Try.prog envRest := ((EnvOk.none.addF g_cartoucheref1_GetChunk_ok).addF g_cartoucheref1_Word_ok).addF g_cartoucheref1_GetVarint_ok
theorem ref_rest_fc (b : List UInt8) (a num kind : Nat) (ha : a ≤ b.length) (hb : b.length ≤ 140737488351232) : FC Try.prog i_cartoucheref1_Rest [.slice (b.map encB), .int .i64 a, .int .i64 num, .int .i64 kind] (· = encGE (restAt b num kind a)) := by
  (refine FC.vc (envRest_ok) F_cartoucheref1_Rest T_cartoucheref1_Rest L_cartoucheref1_Rest ?_; unfold A_cartoucheref1_Rest; simp only [args0, List.map_cons, List.map_nil, List.zipIdx_cons, List.zipIdx_nil, Nat.reduceAdd])
  (simp -implicitDefEqProofs +contextual (maxSteps := 8000000) only [go_sem, ↓reduceIte, Nat.reduceEqDiff, Nat.reduceAdd, Nat.reduceSub, Nat.reduceLeDiff, Nat.reduceMul, reduceCtorEq, Nat.reduceBEq, Int.reduceLT, Int.reduceLE, Int.reduceNeg, Int.reduceEq, Int.reduceToNat, Nat.reducePow, Nat.reduceLT, Nat.reduceDiv, Nat.reduceMod, encGV, encGC, envRest, i_cartoucheref1_GetVarint, i_cartoucheref1_Word, i_cartoucheref1_GetChunk, g_cartoucheref1_GetVarint_is, g_cartoucheref1_Word_is, g_cartoucheref1_GetChunk_is])
  have h1 : (a : Int) ≤ b.length := by omega
  simp +contextual [encGE, restAt, fin3, finC, ent0, encE, hb, ha, h1]
theorem ref_fine_fc (e : Ent) : FC Try.prog i_cartoucheref1_Fine [encE e] (· = .bool (fineE e)) := by
  obtain ⟨num, kind, n, b⟩ := e
  (refine FC.vc (EnvOk.none) F_cartoucheref1_Fine T_cartoucheref1_Fine L_cartoucheref1_Fine ?_; unfold A_cartoucheref1_Fine; simp only [args0, List.map_cons, List.map_nil, List.zipIdx_cons, List.zipIdx_nil, Nat.reduceAdd])
  (simp -implicitDefEqProofs +contextual (maxSteps := 8000000) only [go_sem, ↓reduceIte, Nat.reduceEqDiff, Nat.reduceAdd, Nat.reduceSub, Nat.reduceLeDiff, Nat.reduceMul, reduceCtorEq, Nat.reduceBEq, Int.reduceLT, Int.reduceLE, Int.reduceNeg, Int.reduceEq, Int.reduceToNat, Nat.reducePow, Nat.reduceLT, Nat.reduceDiv, Nat.reduceMod, encE])
  by_cases h : kind = 2
  · simp [fineE, h]
  · by_cases h5 : kind = 5
    · simp [fineE, h5]
      rw [show decide ((n : Int) < 4294967296) = decide (n < 4294967296) by apply decide_eq_decide.2; omega]
    · simp [fineE, h, h5]
theorem same_ent_fc (x y : Ent) : FC Try.prog i_cartoucheref1_Same [encE x, encE y] (· = .bool (decide (x = y))) := by
  obtain ⟨num, kind, n, b⟩ := x
  obtain ⟨num', kind', n', b'⟩ := y
  (refine FC.vc (EnvOk.none) F_cartoucheref1_Same T_cartoucheref1_Same L_cartoucheref1_Same ?_; unfold A_cartoucheref1_Same; simp only [args0, List.map_cons, List.map_nil, List.zipIdx_cons, List.zipIdx_nil, Nat.reduceAdd])
  (simp -implicitDefEqProofs +contextual (maxSteps := 8000000) only [go_sem, ↓reduceIte, Nat.reduceEqDiff, Nat.reduceAdd, Nat.reduceSub, Nat.reduceLeDiff, Nat.reduceMul, reduceCtorEq, Nat.reduceBEq, Int.reduceLT, Int.reduceLE, Int.reduceNeg, Int.reduceEq, Int.reduceToNat, Nat.reducePow, Nat.reduceLT, Nat.reduceDiv, Nat.reduceMod, encE])
  simp [Bool.and_assoc]
def envPT' : Env := { fc := [(i_cartoucheref1_IsKind, g_cartoucheref1_IsKind)], oc := [(i_cartoucheref1_PutVarint, g_cartoucheref1_PutVarint)] }
theorem envPT'_ok : EnvOk Try.prog envPT' := (EnvOk.none.addF g_cartoucheref1_IsKind_ok).addO g_cartoucheref1_PutVarint_ok
theorem ref_putTag_oc2 (n k : Int) : OC Try.prog i_cartoucheref1_PutTag [.int .i64 n, .int .i64 k] 5 1 ((ptS n k).1.map encB) [.int .i64 (ptS n k).2] := by
  (refine OC.vc (envPT'_ok) F_cartoucheref1_PutTag T_cartoucheref1_PutTag L_cartoucheref1_PutTag ?_; unfold A_cartoucheref1_PutTag; simp only [args0, List.map_cons, List.map_nil, List.zipIdx_cons, List.zipIdx_nil, Nat.reduceAdd])
  (simp -implicitDefEqProofs only [go_sem, ↓reduceIte, Nat.reduceEqDiff, Nat.reduceAdd, Nat.reduceSub, Nat.reduceLeDiff, Nat.reduceMul, reduceCtorEq, Nat.reduceBEq, Int.reduceLT, Int.reduceLE, Int.reduceNeg, Int.reduceEq, Int.reduceToNat, Nat.reducePow, Nat.reduceLT, Nat.reduceDiv, Nat.reduceMod, envPT', i_cartoucheref1_IsKind, i_cartoucheref1_PutVarint, g_cartoucheref1_IsKind_is, g_cartoucheref1_PutVarint_is])
  refine ⟨fun h => ?_, fun h => ⟨fun hk => ?_, fun hk => ?_⟩⟩
  · simp [ptS, h]
  · simp [ptS, hk, show ¬ (n < 1 ∨ 536870911 < n) by omega]
  · have := isK_le hk
    have e : IntKind.u64.wrap (IntKind.i64.wrap (IntKind.i64.wrap (n * 8) + k)) = ((n * 8 + k).toNat : Int) := by
      rw [wrap_i64 (n := n * 8) (by omega) (by omega), wrap_i64 (by omega) (by omega), wrap_u64 (by omega) (by omega)]; omega
    rw [e]
    refine ⟨by omega, ?_⟩
    simp [ptS, hk, show ¬ (n < 1 ∨ 536870911 < n) by omega, show max (n * 8 + k) 0 = n * 8 + k by omega]
end Go.Proofs.Ytfmeedphpcjkmaa.Ag
set_option linter.unusedVariables false
set_option linter.unusedSimpArgs false
namespace Go.Proofs.Ytfmeedphpcjkmaa.Ag
def g_wire_PutEntry : List IV → Option IV
  | [x_] => (match decE x_ with
    | some x => if x.n < 18446744073709551616 ∧ x.b.length ≤ 140737488351232 then some (encPT (peS x)) else none
    | none => none)
  | _ => none
theorem g_wire_PutEntry_is (x : Ent) : g_wire_PutEntry [encE x] = if x.n < 18446744073709551616 ∧ x.b.length ≤ 140737488351232 then some (encPT (peS x)) else none := by
  simp only [g_wire_PutEntry, decE_enc]
theorem g_wire_PutEntry_ok : ∀ xs r, g_wire_PutEntry xs = some r → FC Try.prog i_wire_PutEntry xs (· = r) := by
  intro xs r h
  unfold g_wire_PutEntry at h
  split at h
  · rename_i x_
    split at h
    · rename_i x hx
      split at h
      · rename_i hpre
        injection h with h; subst h
        have := decE_enc_inv hx; subst this
        exact putEntry_fc x hpre.1 hpre.2
      · cases h
    · cases h
  · cases h

def g_wire_GetEntry : List IV → Option IV
  | [.slice b_, .int .i64 k] => (match unBs b_ with
    | some b => if b.length ≤ 140737488351232 then some (encGE (geAt b k)) else none
    | none => none)
  | _ => none
theorem g_wire_GetEntry_is (b : List UInt8) (k : Int) : g_wire_GetEntry [.slice (b.map encB), .int .i64 k] = if b.length ≤ 140737488351232 then some (encGE (geAt b k)) else none := by
  simp only [g_wire_GetEntry, unBs_enc]
theorem g_wire_GetEntry_ok : ∀ xs r, g_wire_GetEntry xs = some r → FC Try.prog i_wire_GetEntry xs (· = r) := by
  intro xs r h
  unfold g_wire_GetEntry at h
  split at h
  · rename_i b_ k
    split at h
    · rename_i b hb
      split at h
      · rename_i hpre
        injection h with h; subst h
        have := unBs_enc_inv hb; subst this
        exact getEntry_fc b k hpre
      · cases h
    · cases h
  · cases h

def g_cartoucheref1_Rest : List IV → Option IV
  | [.slice b_, .int .i64 a, .int .i64 num, .int .i64 kind] => (match unBs b_ with
    | some b => if 0 ≤ a ∧ a ≤ b.length ∧ b.length ≤ 140737488351232 ∧ 0 ≤ num ∧ 0 ≤ kind then some (encGE (restAt b num.toNat kind.toNat a.toNat)) else none
    | none => none)
  | _ => none
theorem g_cartoucheref1_Rest_is (b : List UInt8) (a : Int) (num : Int) (kind : Int) : g_cartoucheref1_Rest [.slice (b.map encB), .int .i64 a, .int .i64 num, .int .i64 kind] = if 0 ≤ a ∧ a ≤ b.length ∧ b.length ≤ 140737488351232 ∧ 0 ≤ num ∧ 0 ≤ kind then some (encGE (restAt b num.toNat kind.toNat a.toNat)) else none := by
  simp only [g_cartoucheref1_Rest, unBs_enc]
theorem g_cartoucheref1_Rest_ok : ∀ xs r, g_cartoucheref1_Rest xs = some r → FC Try.prog i_cartoucheref1_Rest xs (· = r) := by
  intro xs r h
  unfold g_cartoucheref1_Rest at h
  split at h
  · rename_i b_ a num kind
    split at h
    · rename_i b hb
      split at h
      · rename_i hpre
        injection h with h; subst h
        have := unBs_enc_inv hb; subst this
        obtain ⟨p, rfl⟩ := Int.eq_ofNat_of_zero_le hpre.1
        obtain ⟨q, rfl⟩ := Int.eq_ofNat_of_zero_le hpre.2.2.2.1
        obtain ⟨r, rfl⟩ := Int.eq_ofNat_of_zero_le hpre.2.2.2.2
        exact ref_rest_fc b p q r (by omega) hpre.2.2.1
      · cases h
    · cases h
  · cases h

def g_cartoucheref1_Fine : List IV → Option IV
  | [x_] => (match decE x_ with
    | some x => some (.bool (fineE x))
    | none => none)
  | _ => none
theorem g_cartoucheref1_Fine_is (x : Ent) : g_cartoucheref1_Fine [encE x] = some (.bool (fineE x)) := by
  simp only [g_cartoucheref1_Fine, decE_enc]
theorem g_cartoucheref1_Fine_ok : ∀ xs r, g_cartoucheref1_Fine xs = some r → FC Try.prog i_cartoucheref1_Fine xs (· = r) := by
  intro xs r h
  unfold g_cartoucheref1_Fine at h
  split at h
  · rename_i x_
    split at h
    · rename_i x hx
      injection h with h; subst h
      have := decE_enc_inv hx; subst this
      exact ref_fine_fc x
    · cases h
  · cases h

def g_cartoucheref1_Same : List IV → Option IV
  | [x_, y_] => (match decE x_ with
    | some x => (match decE y_ with
    | some y => some (.bool (decide (x = y)))
    | none => none)
    | none => none)
  | _ => none
theorem g_cartoucheref1_Same_is (x : Ent) (y : Ent) : g_cartoucheref1_Same [encE x, encE y] = some (.bool (decide (x = y))) := by
  simp only [g_cartoucheref1_Same, decE_enc, decE_enc]
theorem g_cartoucheref1_Same_ok : ∀ xs r, g_cartoucheref1_Same xs = some r → FC Try.prog i_cartoucheref1_Same xs (· = r) := by
  intro xs r h
  unfold g_cartoucheref1_Same at h
  split at h
  · rename_i x_ y_
    split at h
    · rename_i x hx
      split at h
      · rename_i y hy
        injection h with h; subst h
        have := decE_enc_inv hx; subst this
        have := decE_enc_inv hy; subst this
        exact same_ent_fc x y
      · cases h
    · cases h
  · cases h

def g_cartoucheref1_PutTag : List IV → Option (Nat × Nat × List IV × List IV)
  | [.int .i64 n, .int .i64 k] => some (5, 1, (ptS n k).1.map encB, [.int .i64 (ptS n k).2])
  | _ => none
theorem g_cartoucheref1_PutTag_is (n : Int) (k : Int) : g_cartoucheref1_PutTag [.int .i64 n, .int .i64 k] = some (5, 1, (ptS n k).1.map encB, [.int .i64 (ptS n k).2]) := by
  simp only [g_cartoucheref1_PutTag]
theorem g_cartoucheref1_PutTag_ok : ∀ xs e sz zs rets, g_cartoucheref1_PutTag xs = some (e, sz, zs, rets) → OC Try.prog i_cartoucheref1_PutTag xs e sz zs rets := by
  intro xs e sz zs rets h
  unfold g_cartoucheref1_PutTag at h
  split at h
  · rename_i n k
    simp only [Option.some.injEq, Prod.mk.injEq] at h
    obtain ⟨rfl, rfl, rfl, rfl⟩ := h
    exact ref_putTag_oc2 n k
  · cases h

end Go.Proofs.Ytfmeedphpcjkmaa.Ag
