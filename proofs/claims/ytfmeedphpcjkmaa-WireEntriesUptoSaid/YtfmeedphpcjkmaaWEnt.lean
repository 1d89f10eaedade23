/- The walk over entries, one step. -/
import Derived.Test.YtfmeedphpcjkmaaWG
set_option linter.unusedVariables false
set_option linter.unusedSimpArgs false
set_option maxRecDepth 100000
set_option maxHeartbeats 2000000
namespace Go.Proofs.Ytfmeedphpcjkmaa.Ag

/-- An entry. -/
structure Ent where
  num : Int
  kind : Int
  n : Nat
  b : List UInt8
  deriving DecidableEq
def encE (e : Ent) : IV := .agg [.int .i64 e.num, .int .i64 e.kind, .int .u64 e.n, .slice (e.b.map encB)]

def fineE (e : Ent) : Bool := if e.kind = 2 then decide (e.n = 0) else decide (e.b.length = 0) && (!decide (e.kind = 5) || decide (e.n < 4294967296))
def bodyE (e : Ent) : List UInt8 := if e.kind = 0 then pvL e.n else if e.kind = 1 then wdL e.n 8 else if e.kind = 5 then wdL e.n 4 else pcL e.b
def tagE (e : Ent) : List UInt8 := pvL (e.num * 8 + e.kind).toNat
def peS (e : Ent) : List UInt8 × Nat :=
  if e.num < 1 ∨ 536870911 < e.num then ([], 5) else if isK e.kind then (if fineE e then (tagE e ++ bodyE e, 0) else ([], 7)) else ([], 6)

def envPT : Env := { fc := [(i_wire_isKind, g_wire_isKind)], oc := [(i_wire_PutVarint, g_wire_PutVarint)] }
theorem envPT_ok : EnvOk Try.prog envPT := (EnvOk.none.addF g_wire_isKind_ok).addO g_wire_PutVarint_ok
theorem tag_wrap {n k : Int} (hn : 1 ≤ n ∧ n ≤ 536870911) (hk : isK k = true) : IntKind.u64.wrap (IntKind.u64.wrap (IntKind.u64.wrap n * 8) + IntKind.u64.wrap k) = ((n * 8 + k).toNat : Int) := by
  have hk' := isK_le hk
  rw [wrap_u64 (n := n) (by omega) (by omega), wrap_u64 (n := k) (by omega) (by omega), wrap_u64 (n := n * 8) (by omega) (by omega), wrap_u64 (by omega) (by omega)]; omega
theorem tagL_len {n k : Int} (hn : 1 ≤ n ∧ n ≤ 536870911) (hk : isK k = true) : (pvL (n * 8 + k).toNat).length ≤ 5 := by
  have := isK_le hk
  exact pvL_len 4 (by
    have e : (128 : Nat) ^ (4 + 1) = 34359738368 := by decide
    omega)
theorem ptS_len (n k : Int) : (ptS n k).1.length ≤ 5 := by
  unfold ptS
  split
  · simp
  · split
    · exact tagL_len (by omega) (by assumption)
    · simp
theorem putTag_oc2 (n k : Int) : OC Try.prog i_wire_PutTag [.int .i64 n, .int .i64 k] 5 1 ((ptS n k).1.map encB) [.int .i64 (ptS n k).2] := by
  (refine OC.vc (envPT_ok) F_wire_PutTag T_wire_PutTag L_wire_PutTag ?_; unfold A_wire_PutTag; simp only [args0, List.map_cons, List.map_nil, List.zipIdx_cons, List.zipIdx_nil, Nat.reduceAdd])
  (simp -implicitDefEqProofs only [go_sem, ↓reduceIte, Nat.reduceEqDiff, Nat.reduceAdd, Nat.reduceSub, Nat.reduceLeDiff, Nat.reduceMul, reduceCtorEq, Nat.reduceBEq, Int.reduceLT, Int.reduceLE, Int.reduceNeg, Int.reduceEq, Int.reduceToNat, Nat.reducePow, Nat.reduceLT, Nat.reduceDiv, Nat.reduceMod, envPT, i_wire_isKind, i_wire_PutVarint, g_wire_isKind_is, g_wire_PutVarint_is])
  refine ⟨fun h => ?_, fun h => ⟨fun hk => ?_, fun hk => ?_⟩⟩
  · simp [ptS, h]
  · simp [ptS, hk, show ¬ (n < 1 ∨ 536870911 < n) by omega]
  · rw [tag_wrap h hk]
    have := isK_le hk
    refine ⟨by omega, ?_⟩
    simp [ptS, hk, show ¬ (n < 1 ∨ 536870911 < n) by omega, show max (n * 8 + k) 0 = n * 8 + k by omega]
def g_wire_PutTag : List IV → Option (Nat × Nat × List IV × List IV)
  | [.int .i64 n, .int .i64 k] => some (5, 1, (ptS n k).1.map encB, [.int .i64 (ptS n k).2])
  | _ => none
theorem g_wire_PutTag_is (n k : Int) : g_wire_PutTag [.int .i64 n, .int .i64 k] = some (5, 1, (ptS n k).1.map encB, [.int .i64 (ptS n k).2]) := rfl
theorem g_wire_PutTag_ok : ∀ xs e sz zs rets, g_wire_PutTag xs = some (e, sz, zs, rets) → OC Try.prog i_wire_PutTag xs e sz zs rets := by
  intro xs e sz zs rets h
  unfold g_wire_PutTag at h
  split at h
  · simp only [Option.some.injEq, Prod.mk.injEq] at h
    obtain ⟨rfl, rfl, rfl, rfl⟩ := h
    exact putTag_oc2 _ _
  · cases h

def envPE : Env := { fc := [(i_wire_word, g_wire_word)], oc := [(i_wire_PutTag, g_wire_PutTag)], lc := [(i_wire_varint, g_wire_varint)] }
theorem envPE_ok : EnvOk Try.prog envPE := ((EnvOk.none.addF g_wire_word_ok).addO g_wire_PutTag_ok).addL g_wire_varint_ok
theorem putEntry_fc (e : Ent) (hn : e.n < 18446744073709551616) (hb : e.b.length ≤ 140737488351232) : FC Try.prog i_wire_PutEntry [encE e] (· = encPT (peS e)) := by
  obtain ⟨num, kind, n, b⟩ := e
  simp only at hn hb
  (refine FC.vc (envPE_ok) F_wire_PutEntry T_wire_PutEntry L_wire_PutEntry ?_; unfold A_wire_PutEntry; simp only [args0, List.map_cons, List.map_nil, List.zipIdx_cons, List.zipIdx_nil, Nat.reduceAdd])
  (simp -implicitDefEqProofs +contextual only [go_sem, ↓reduceIte, Nat.reduceEqDiff, Nat.reduceAdd, Nat.reduceSub, Nat.reduceLeDiff, Nat.reduceMul, reduceCtorEq, Nat.reduceBEq, Int.reduceLT, Int.reduceLE, Int.reduceNeg, Int.reduceEq, Int.reduceToNat, Nat.reducePow, Nat.reduceLT, Nat.reduceDiv, Nat.reduceMod, encE, envPE, i_wire_word, i_wire_PutTag, i_wire_varint, g_wire_word_is, g_wire_PutTag_is, g_wire_varint_is])
  by_cases hnum : num < 1 ∨ 536870911 < num
  · have hp : ptS num kind = ([], 5) := by simp [ptS, hnum]
    simp [hp, peS, hnum, encPT]
  cases hk : isK kind with
  | false =>
    have hp : ptS num kind = ([], 6) := by simp [ptS, hnum, hk]
    simp [hp, peS, hnum, hk, encPT]
  | true =>
    have hpt : ∀ k, isK k = true → ptS num k = (pvL (num * 8 + k).toNat, 0) := by intro k h; simp [ptS, hnum, h]
    have hkk : kind = 0 ∨ kind = 1 ∨ kind = 2 ∨ kind = 5 := by simpa [isK, or_assoc] using hk
    have hl := tagL_len (n := num) (k := kind) (by omega) hk
    have hw8 : (wdL n 8).length = 8 := wdL_len n 8
    have hw4 : (wdL n 4).length = 4 := wdL_len n 4
    have hv := pvL_len10 (n := n) hn
    have hv2 := pvL_len10 (n := b.length) (by omega)
    have hwr : IntKind.u64.wrap (b.length : Int) = b.length := wrap_u64 (by omega) (by omega)
    have hnn : (1 ≤ num) ∧ num ≤ 536870911 := by omega
    rcases hkk with rfl | rfl | rfl | rfl
    · by_cases hb0 : b = []
      · simp [hpt _ hk, peS, hnum, hk, fineE, bodyE, tagE, encPT, hb0] at hl ⊢; omega
      · have : 0 < b.length := List.length_pos_iff.2 hb0
        simp [hpt _ hk, peS, hnum, hk, fineE, bodyE, tagE, encPT, hb0, this]
    · by_cases hb0 : b = []
      · simp [hpt _ hk, peS, hnum, hk, fineE, bodyE, tagE, encPT, hb0] at hl ⊢; omega
      · have : 0 < b.length := List.length_pos_iff.2 hb0
        simp [hpt _ hk, peS, hnum, hk, fineE, bodyE, tagE, encPT, hb0, this]
    · by_cases hn0 : n = 0
      · simp [hpt _ hk, peS, hnum, hk, fineE, bodyE, tagE, encPT, hn0, pcL, hwr] at hl ⊢; omega
      · simp [hpt _ hk, peS, hnum, hk, fineE, bodyE, tagE, encPT, hn0]
    · by_cases hb0 : b = []
      · by_cases hn4 : n < 4294967296
        · have : n / 4294967296 = 0 := by omega
          simp [hpt _ hk, peS, hnum, hk, fineE, bodyE, tagE, encPT, hb0, hn4, this] at hl ⊢; omega
        · have : ¬ n / 4294967296 = 0 := by omega
          simp [hpt _ hk, peS, hnum, hk, fineE, bodyE, tagE, encPT, hb0, hn4, this]
      · have : 0 < b.length := List.length_pos_iff.2 hb0
        simp [hpt _ hk, peS, hnum, hk, fineE, bodyE, tagE, encPT, hb0, this]
end Go.Proofs.Ytfmeedphpcjkmaa.Ag
