/- The walk over entries: what reads them; the reference's. -/
import Derived.Test.YtfmeedphpcjkmaaWEnt
set_option linter.unusedVariables false
set_option linter.unusedSimpArgs false
set_option maxRecDepth 100000
set_option maxHeartbeats 2000000
namespace Go.Proofs.Ytfmeedphpcjkmaa.Ag

def decE : IV → Option Ent
  | .agg [.int .i64 num, .int .i64 kind, .int .u64 n, .slice bs] => if 0 ≤ n then (match unBs bs with
      | some b => some ⟨num, kind, n.toNat, b⟩
      | none => none) else none
  | _ => none
theorem decE_enc (e : Ent) : decE (encE e) = some e := by
  obtain ⟨num, kind, n, b⟩ := e
  simp [encE, decE, unBs_enc]
theorem decE_enc_inv {x : IV} {e : Ent} (h : decE x = some e) : x = encE e := by
  unfold decE at h
  split at h
  · split at h
    · rename_i h0
      split at h
      · rename_i b hb
        injection h with h; subst h
        have := unBs_enc_inv hb; subst this
        simp [encE]; omega
      · cases h
    · cases h
  · cases h

def ent0 : Ent := ⟨0, 0, 0, []⟩
def fin3 (num kind : Nat) (g : Nat × Nat × Nat) : Ent × Nat × Nat := if g.2.2 = 0 then (⟨num, kind, g.1, []⟩, g.2.1, 0) else (ent0, 0, g.2.2)
def finC (num kind : Nat) (g : List UInt8 × Nat × Nat) : Ent × Nat × Nat := if g.2.2 = 0 then (⟨num, kind, 0, g.1⟩, g.2.1, 0) else (ent0, 0, g.2.2)
def restAt (b : List UInt8) (num kind next : Nat) : Ent × Nat × Nat :=
  if kind = 0 then fin3 num kind (gvAt b next) else if kind = 1 then fin3 num kind (rdAt b next 8) else if kind = 5 then fin3 num kind (rdAt b next 4) else finC num kind (gcAt b next)
def geAt (b : List UInt8) (k : Int) : Ent × Nat × Nat :=
  if (gtAt b k).2.2.2 = 0 then restAt b (gtAt b k).1 (gtAt b k).2.1 (gtAt b k).2.2.1 else (ent0, 0, (gtAt b k).2.2.2)
def encGE (r : Ent × Nat × Nat) : IV := .tup [encE r.1, .int .i64 r.2.1, .int .i64 r.2.2]

def envGE : Env := { fc := [(i_wire_GetTag, g_wire_GetTag), (i_wire_GetVarint, g_wire_GetVarint), (i_wire_read, g_wire_read), (i_wire_GetChunk, g_wire_GetChunk)] }
theorem envGE_ok : EnvOk Try.prog envGE := (((EnvOk.none.addF g_wire_GetChunk_ok).addF g_wire_read_ok).addF g_wire_GetVarint_ok).addF g_wire_GetTag_ok
theorem getEntry_fc (b : List UInt8) (k : Int) (hb : b.length ≤ 140737488351232) : FC Try.prog i_wire_GetEntry [.slice (b.map encB), .int .i64 k] (· = encGE (geAt b k)) := by
  (refine FC.vc (envGE_ok) F_wire_GetEntry T_wire_GetEntry L_wire_GetEntry ?_; unfold A_wire_GetEntry; simp only [args0, List.map_cons, List.map_nil, List.zipIdx_cons, List.zipIdx_nil, Nat.reduceAdd])
  (simp -implicitDefEqProofs +contextual only [go_sem, ↓reduceIte, Nat.reduceEqDiff, Nat.reduceAdd, Nat.reduceSub, Nat.reduceLeDiff, Nat.reduceMul, reduceCtorEq, Nat.reduceBEq, Int.reduceLT, Int.reduceLE, Int.reduceNeg, Int.reduceEq, Int.reduceToNat, Nat.reducePow, Nat.reduceLT, Nat.reduceDiv, Nat.reduceMod, encGT, encGV, encGC, envGE, i_wire_GetTag, i_wire_GetVarint, i_wire_read, i_wire_GetChunk, g_wire_GetTag_is, g_wire_GetVarint_is, g_wire_read_is, g_wire_GetChunk_is])
  simp +contextual [encGE, geAt, restAt, fin3, finC, ent0, encE, hb]
def envRest : Env := { fc := [(i_cartoucheref1_GetVarint, g_cartoucheref1_GetVarint), (i_cartoucheref1_Word, g_cartoucheref1_Word), (i_cartoucheref1_GetChunk, g_cartoucheref1_GetChunk)] }
theorem envRest_ok : EnvOk Try.prog envRest := ((EnvOk.none.addF g_cartoucheref1_GetChunk_ok).addF g_cartoucheref1_Word_ok).addF g_cartoucheref1_GetVarint_ok
theorem ref_rest_fc (b : List UInt8) (a num kind : Nat) (ha : a ≤ b.length) (hb : b.length ≤ 140737488351232) : FC Try.prog i_cartoucheref1_Rest [.slice (b.map encB), .int .i64 a, .int .i64 num, .int .i64 kind] (· = encGE (restAt b num kind a)) := by
  (refine FC.vc (envRest_ok) F_cartoucheref1_Rest T_cartoucheref1_Rest L_cartoucheref1_Rest ?_; unfold A_cartoucheref1_Rest; simp only [args0, List.map_cons, List.map_nil, List.zipIdx_cons, List.zipIdx_nil, Nat.reduceAdd])
  (simp -implicitDefEqProofs +contextual only [go_sem, ↓reduceIte, Nat.reduceEqDiff, Nat.reduceAdd, Nat.reduceSub, Nat.reduceLeDiff, Nat.reduceMul, reduceCtorEq, Nat.reduceBEq, Int.reduceLT, Int.reduceLE, Int.reduceNeg, Int.reduceEq, Int.reduceToNat, Nat.reducePow, Nat.reduceLT, Nat.reduceDiv, Nat.reduceMod, encGV, encGC, envRest, i_cartoucheref1_GetVarint, i_cartoucheref1_Word, i_cartoucheref1_GetChunk, g_cartoucheref1_GetVarint_is, g_cartoucheref1_Word_is, g_cartoucheref1_GetChunk_is])
  have h1 : (a : Int) ≤ b.length := by omega
  simp +contextual [encGE, restAt, fin3, finC, ent0, encE, hb, ha, h1]
theorem ref_fine_fc (e : Ent) : FC Try.prog i_cartoucheref1_Fine [encE e] (· = .bool (fineE e)) := by
  obtain ⟨num, kind, n, b⟩ := e
  (refine FC.vc (EnvOk.none) F_cartoucheref1_Fine T_cartoucheref1_Fine L_cartoucheref1_Fine ?_; unfold A_cartoucheref1_Fine; simp only [args0, List.map_cons, List.map_nil, List.zipIdx_cons, List.zipIdx_nil, Nat.reduceAdd])
  (simp -implicitDefEqProofs +contextual only [go_sem, ↓reduceIte, Nat.reduceEqDiff, Nat.reduceAdd, Nat.reduceSub, Nat.reduceLeDiff, Nat.reduceMul, reduceCtorEq, Nat.reduceBEq, Int.reduceLT, Int.reduceLE, Int.reduceNeg, Int.reduceEq, Int.reduceToNat, Nat.reducePow, Nat.reduceLT, Nat.reduceDiv, Nat.reduceMod, encE])
  by_cases h : kind = 2
  · simp [fineE, h]
  · by_cases h5 : kind = 5
    · simp [fineE, h5]
      rw [show decide ((n : Int) < 4294967296) = decide (n < 4294967296) by apply decide_eq_decide.2; omega]
    · simp [fineE, h, h5]
theorem same_ent_fc (x y : Ent) : FC Try.prog i_cartoucheref1_Same [encE x, encE y] (· = .bool (decide (x = y))) := by
  obtain ⟨num, kind, n, b⟩ := x
  obtain ⟨num', kind', n', b'⟩ := y
  (refine FC.vc (EnvOk.none) F_cartoucheref1_Same T_cartoucheref1_Same L_cartoucheref1_Same ?_; unfold A_cartoucheref1_Same; simp only [args0, List.map_cons, List.map_nil, List.zipIdx_cons, List.zipIdx_nil, Nat.reduceAdd])
  (simp -implicitDefEqProofs +contextual only [go_sem, ↓reduceIte, Nat.reduceEqDiff, Nat.reduceAdd, Nat.reduceSub, Nat.reduceLeDiff, Nat.reduceMul, reduceCtorEq, Nat.reduceBEq, Int.reduceLT, Int.reduceLE, Int.reduceNeg, Int.reduceEq, Int.reduceToNat, Nat.reducePow, Nat.reduceLT, Nat.reduceDiv, Nat.reduceMod, encE])
  simp [Bool.and_assoc]
def envPT' : Env := { fc := [(i_cartoucheref1_IsKind, g_cartoucheref1_IsKind)], oc := [(i_cartoucheref1_PutVarint, g_cartoucheref1_PutVarint)] }
theorem envPT'_ok : EnvOk Try.prog envPT' := (EnvOk.none.addF g_cartoucheref1_IsKind_ok).addO g_cartoucheref1_PutVarint_ok
theorem ref_putTag_oc2 (n k : Int) : OC Try.prog i_cartoucheref1_PutTag [.int .i64 n, .int .i64 k] 5 1 ((ptS n k).1.map encB) [.int .i64 (ptS n k).2] := by
  (refine OC.vc (envPT'_ok) F_cartoucheref1_PutTag T_cartoucheref1_PutTag L_cartoucheref1_PutTag ?_; unfold A_cartoucheref1_PutTag; simp only [args0, List.map_cons, List.map_nil, List.zipIdx_cons, List.zipIdx_nil, Nat.reduceAdd])
  (simp -implicitDefEqProofs only [go_sem, ↓reduceIte, Nat.reduceEqDiff, Nat.reduceAdd, Nat.reduceSub, Nat.reduceLeDiff, Nat.reduceMul, reduceCtorEq, Nat.reduceBEq, Int.reduceLT, Int.reduceLE, Int.reduceNeg, Int.reduceEq, Int.reduceToNat, Nat.reducePow, Nat.reduceLT, Nat.reduceDiv, Nat.reduceMod, envPT', i_cartoucheref1_IsKind, i_cartoucheref1_PutVarint, g_cartoucheref1_IsKind_is, g_cartoucheref1_PutVarint_is])
  refine ⟨fun h => ?_, fun h => ⟨fun hk => ?_, fun hk => ?_⟩⟩
  · simp [ptS, h]
  · simp [ptS, hk, show ¬ (n < 1 ∨ 536870911 < n) by omega]
  · have := isK_le hk
    have e : IntKind.u64.wrap (IntKind.i64.wrap (IntKind.i64.wrap (n * 8) + k)) = ((n * 8 + k).toNat : Int) := by
      rw [wrap_i64 (n := n * 8) (by omega) (by omega), wrap_i64 (by omega) (by omega), wrap_u64 (by omega) (by omega)]; omega
    rw [e]
    refine ⟨by omega, ?_⟩
    simp [ptS, hk, show ¬ (n < 1 ∨ 536870911 < n) by omega, show max (n * 8 + k) 0 = n * 8 + k by omega]
end Go.Proofs.Ytfmeedphpcjkmaa.Ag
