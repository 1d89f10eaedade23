/- The walk over tags. -/
import Derived.Test.YtfmeedphpcjkmaaWAwake
-- sem
set_option linter.unusedVariables false
set_option linter.unusedSimpArgs false
namespace Go.Proofs.Ytfmeedphpcjkmaa.Ag
attribute [local go_sem] runTo_nil runTo_n runTo_g conT_some conT_none conB_true conB_false conG_bool runI_nil runI_n runI_g conTI_some conTI_none conBI_some conBI_none conGI_bool runD_nil runD_n runD_g conDB_some conDB_none conDF_some conDF_none conD_true conD_false conDW_true conDW_false conDG_bool gρ openV pickB opds aop ev evOpt evAll callArgs callArgsL ownRes shutAll shut nrm nrm0 nrm1 St.put lk upd nxt bin2 un1 intOp lenOf isStr isBoolIV notNil IV.cells fldA fldV partIV partTV loadOf storeOf cellsOf TV.cells? mkAgg ivsOf splice fillTV dstOf dstOf0 srcOf srcOf0 unIf isNilS condP retOf retVals oneOrTup thenC blockC List.map_cons List.map_nil List.length_cons List.length_nil List.length_map Option.map_some Bool.not_true Bool.not_false Bool.true_and Bool.false_and Bool.and_true Bool.and_false Bool.false_eq_true if_true if_false decide_true decide_false List.contains_nil List.contains_cons eq_self Int.toNat_natCast Option.getD_some Option.getD_none and_true true_and List.getElem?_cons_zero List.getElem?_cons_succ List.drop_zero List.drop_succ_cons List.take_succ_cons List.take_zero List.nil_append List.cons_append wpr_nil wprd_nil Int.natCast_nonneg Int.natCast_inj Int.ofNat_lt Int.ofNat_le Bool.cond_false_right Bool.cond_true_left Bool.cond_false_left Bool.cond_true_right cond_true cond_false beq_true beq_false Bool.not_eq_true beq_self_eq_true oneSize Nat.mul_one List.length_append Int.toNat_zero List.replicate_zero Int.cast_ofNat_Int Int.mul_one Bool.or_false Bool.false_or Bool.true_or Bool.or_true Bool.and_self Bool.or_self
attribute [-go_sem] IntKind.bits

/-- Is a wire kind one? -/
def isK (k : Int) : Bool := decide (k = 0) || decide (k = 1) || decide (k = 2) || decide (k = 5)

theorem isKind_fc (k : Int) : FC Try.prog i_wire_isKind [.int .i64 k] (· = .bool (isK k)) := by
  (refine .of F_wire_isKind T_wire_isKind L_wire_isKind ?_; unfold A_wire_isKind; simp only [args0, List.map_cons, List.map_nil, List.zipIdx_cons, List.zipIdx_nil])
  (refine wpc_seq ?_); (refine wpc_region fun Kr hKr => ?_; simp only [go_sem, ↓reduceIte, Nat.reduceEqDiff, Nat.reduceAdd, Nat.reduceSub, Nat.reduceLeDiff, Nat.reduceMul, reduceCtorEq, Nat.reduceBEq, Int.reduceLT, Int.reduceLE, Int.reduceNeg, Int.reduceEq]; with_reducible refine hKr _ ?_; clear hKr Kr)
  (refine wpc_seq ?_); (refine wpc_seq ?_); (refine wpc_region fun Kr hKr => ?_; simp only [go_sem, ↓reduceIte, Nat.reduceEqDiff, Nat.reduceAdd, Nat.reduceSub, Nat.reduceLeDiff, Nat.reduceMul, reduceCtorEq, Nat.reduceBEq, Int.reduceLT, Int.reduceLE, Int.reduceNeg, Int.reduceEq]; with_reducible refine hKr _ ?_; clear hKr Kr)
  show wpc _ (.seq _ _) _ _
  (refine wpc_seq ?_); (refine wpc_seq ?_); (refine wpc_region fun Kr hKr => ?_; simp only [go_sem, ↓reduceIte, Nat.reduceEqDiff, Nat.reduceAdd, Nat.reduceSub, Nat.reduceLeDiff, Nat.reduceMul, reduceCtorEq, Nat.reduceBEq, Int.reduceLT, Int.reduceLE, Int.reduceNeg, Int.reduceEq]; with_reducible refine hKr _ ?_; clear hKr Kr)
  by_cases h0 : k = 0
  · (refine wpc_true (by simp only [ev, lk, Nat.reduceEqDiff, ↓reduceIte, decide_true, decide_false, Bool.not_true, Bool.not_false, Bool.true_and, Bool.false_and, Bool.and_true, Bool.and_false, Bool.or_false, Bool.false_or, Bool.true_or, Bool.or_true, Bool.and_self, Bool.or_self, Int.cast_ofNat_Int, Int.natCast_inj, Int.ofNat_lt, Int.ofNat_le, Int.natCast_nonneg, eq_self, Int.reduceLT, Int.reduceLE, Int.reduceEq, Bool.false_eq_true, if_true, if_false, reduceCtorEq, and_self, and_true, true_and, and_false, false_and, h0]) ?_)
    (refine wpc_skip' ?_)
    (refine wpc_true (by simp only [ev, lk, Nat.reduceEqDiff, ↓reduceIte, decide_true, decide_false, Bool.not_true, Bool.not_false, Bool.true_and, Bool.false_and, Bool.and_true, Bool.and_false, Bool.or_false, Bool.false_or, Bool.true_or, Bool.or_true, Bool.and_self, Bool.or_self, Int.cast_ofNat_Int, Int.natCast_inj, Int.ofNat_lt, Int.ofNat_le, Int.natCast_nonneg, eq_self, Int.reduceLT, Int.reduceLE, Int.reduceEq, Bool.false_eq_true, if_true, if_false, reduceCtorEq, and_self, and_true, true_and, and_false, false_and, h0]) ?_)
    (refine wpc_seq ?_); (refine wpc_region fun Kr hKr => ?_; simp only [go_sem, ↓reduceIte, Nat.reduceEqDiff, Nat.reduceAdd, Nat.reduceSub, Nat.reduceLeDiff, Nat.reduceMul, reduceCtorEq, Nat.reduceBEq, Int.reduceLT, Int.reduceLE, Int.reduceNeg, Int.reduceEq]; with_reducible refine hKr _ ?_; clear hKr Kr)
    (refine endsV (x := _) (σ' := _) (by simp only [retOf, retVals, oneOrTup, callArgs, callArgsL, evAll, ev, lk, shutAll, shut, nrm, nrm0, nrm1, upd, ↓reduceIte, Nat.reduceEqDiff, List.map_nil, List.map_cons, eq_self, if_true, if_false, reduceCtorEq, and_self, ownRes]; rfl) ?_)
    simp [isK, h0]
  (refine wpc_false (by simp only [ev, lk, Nat.reduceEqDiff, ↓reduceIte, decide_true, decide_false, Bool.not_true, Bool.not_false, Bool.true_and, Bool.false_and, Bool.and_true, Bool.and_false, Bool.or_false, Bool.false_or, Bool.true_or, Bool.or_true, Bool.and_self, Bool.or_self, Int.cast_ofNat_Int, Int.natCast_inj, Int.ofNat_lt, Int.ofNat_le, Int.natCast_nonneg, eq_self, Int.reduceLT, Int.reduceLE, Int.reduceEq, Bool.false_eq_true, if_true, if_false, reduceCtorEq, and_self, and_true, true_and, and_false, false_and, h0]) ?_)
  (refine wpc_seq ?_); (refine wpc_region fun Kr hKr => ?_; simp only [go_sem, ↓reduceIte, Nat.reduceEqDiff, Nat.reduceAdd, Nat.reduceSub, Nat.reduceLeDiff, Nat.reduceMul, reduceCtorEq, Nat.reduceBEq, Int.reduceLT, Int.reduceLE, Int.reduceNeg, Int.reduceEq]; with_reducible refine hKr _ ?_; clear hKr Kr)
  by_cases h1 : k = 1
  · (refine wpc_true (by simp only [ev, lk, Nat.reduceEqDiff, ↓reduceIte, decide_true, decide_false, Bool.not_true, Bool.not_false, Bool.true_and, Bool.false_and, Bool.and_true, Bool.and_false, Bool.or_false, Bool.false_or, Bool.true_or, Bool.or_true, Bool.and_self, Bool.or_self, Int.cast_ofNat_Int, Int.natCast_inj, Int.ofNat_lt, Int.ofNat_le, Int.natCast_nonneg, eq_self, Int.reduceLT, Int.reduceLE, Int.reduceEq, Bool.false_eq_true, if_true, if_false, reduceCtorEq, and_self, and_true, true_and, and_false, false_and, h1]) ?_)
    (refine wpc_skip' ?_)
    (refine wpc_true (by simp only [ev, lk, Nat.reduceEqDiff, ↓reduceIte, decide_true, decide_false, Bool.not_true, Bool.not_false, Bool.true_and, Bool.false_and, Bool.and_true, Bool.and_false, Bool.or_false, Bool.false_or, Bool.true_or, Bool.or_true, Bool.and_self, Bool.or_self, Int.cast_ofNat_Int, Int.natCast_inj, Int.ofNat_lt, Int.ofNat_le, Int.natCast_nonneg, eq_self, Int.reduceLT, Int.reduceLE, Int.reduceEq, Bool.false_eq_true, if_true, if_false, reduceCtorEq, and_self, and_true, true_and, and_false, false_and, h1]) ?_)
    (refine wpc_seq ?_); (refine wpc_region fun Kr hKr => ?_; simp only [go_sem, ↓reduceIte, Nat.reduceEqDiff, Nat.reduceAdd, Nat.reduceSub, Nat.reduceLeDiff, Nat.reduceMul, reduceCtorEq, Nat.reduceBEq, Int.reduceLT, Int.reduceLE, Int.reduceNeg, Int.reduceEq]; with_reducible refine hKr _ ?_; clear hKr Kr)
    (refine endsV (x := _) (σ' := _) (by simp only [retOf, retVals, oneOrTup, callArgs, callArgsL, evAll, ev, lk, shutAll, shut, nrm, nrm0, nrm1, upd, ↓reduceIte, Nat.reduceEqDiff, List.map_nil, List.map_cons, eq_self, if_true, if_false, reduceCtorEq, and_self, ownRes]; rfl) ?_)
    simp [isK, h1]
  (refine wpc_false (by simp only [ev, lk, Nat.reduceEqDiff, ↓reduceIte, decide_true, decide_false, Bool.not_true, Bool.not_false, Bool.true_and, Bool.false_and, Bool.and_true, Bool.and_false, Bool.or_false, Bool.false_or, Bool.true_or, Bool.or_true, Bool.and_self, Bool.or_self, Int.cast_ofNat_Int, Int.natCast_inj, Int.ofNat_lt, Int.ofNat_le, Int.natCast_nonneg, eq_self, Int.reduceLT, Int.reduceLE, Int.reduceEq, Bool.false_eq_true, if_true, if_false, reduceCtorEq, and_self, and_true, true_and, and_false, false_and, h1]) ?_)
  (refine wpc_seq ?_); (refine wpc_region fun Kr hKr => ?_; simp only [go_sem, ↓reduceIte, Nat.reduceEqDiff, Nat.reduceAdd, Nat.reduceSub, Nat.reduceLeDiff, Nat.reduceMul, reduceCtorEq, Nat.reduceBEq, Int.reduceLT, Int.reduceLE, Int.reduceNeg, Int.reduceEq]; with_reducible refine hKr _ ?_; clear hKr Kr)
  by_cases h2 : k = 2
  · (refine wpc_true (by simp only [ev, lk, Nat.reduceEqDiff, ↓reduceIte, decide_true, decide_false, Bool.not_true, Bool.not_false, Bool.true_and, Bool.false_and, Bool.and_true, Bool.and_false, Bool.or_false, Bool.false_or, Bool.true_or, Bool.or_true, Bool.and_self, Bool.or_self, Int.cast_ofNat_Int, Int.natCast_inj, Int.ofNat_lt, Int.ofNat_le, Int.natCast_nonneg, eq_self, Int.reduceLT, Int.reduceLE, Int.reduceEq, Bool.false_eq_true, if_true, if_false, reduceCtorEq, and_self, and_true, true_and, and_false, false_and, h2]) ?_)
    (refine wpc_skip' ?_)
    (refine wpc_true (by simp only [ev, lk, Nat.reduceEqDiff, ↓reduceIte, decide_true, decide_false, Bool.not_true, Bool.not_false, Bool.true_and, Bool.false_and, Bool.and_true, Bool.and_false, Bool.or_false, Bool.false_or, Bool.true_or, Bool.or_true, Bool.and_self, Bool.or_self, Int.cast_ofNat_Int, Int.natCast_inj, Int.ofNat_lt, Int.ofNat_le, Int.natCast_nonneg, eq_self, Int.reduceLT, Int.reduceLE, Int.reduceEq, Bool.false_eq_true, if_true, if_false, reduceCtorEq, and_self, and_true, true_and, and_false, false_and, h2]) ?_)
    (refine wpc_seq ?_); (refine wpc_region fun Kr hKr => ?_; simp only [go_sem, ↓reduceIte, Nat.reduceEqDiff, Nat.reduceAdd, Nat.reduceSub, Nat.reduceLeDiff, Nat.reduceMul, reduceCtorEq, Nat.reduceBEq, Int.reduceLT, Int.reduceLE, Int.reduceNeg, Int.reduceEq]; with_reducible refine hKr _ ?_; clear hKr Kr)
    (refine endsV (x := _) (σ' := _) (by simp only [retOf, retVals, oneOrTup, callArgs, callArgsL, evAll, ev, lk, shutAll, shut, nrm, nrm0, nrm1, upd, ↓reduceIte, Nat.reduceEqDiff, List.map_nil, List.map_cons, eq_self, if_true, if_false, reduceCtorEq, and_self, ownRes]; rfl) ?_)
    simp [isK, h2]
  (refine wpc_false (by simp only [ev, lk, Nat.reduceEqDiff, ↓reduceIte, decide_true, decide_false, Bool.not_true, Bool.not_false, Bool.true_and, Bool.false_and, Bool.and_true, Bool.and_false, Bool.or_false, Bool.false_or, Bool.true_or, Bool.or_true, Bool.and_self, Bool.or_self, Int.cast_ofNat_Int, Int.natCast_inj, Int.ofNat_lt, Int.ofNat_le, Int.natCast_nonneg, eq_self, Int.reduceLT, Int.reduceLE, Int.reduceEq, Bool.false_eq_true, if_true, if_false, reduceCtorEq, and_self, and_true, true_and, and_false, false_and, h2]) ?_)
  (refine wpc_region fun Kr hKr => ?_; simp only [go_sem, ↓reduceIte, Nat.reduceEqDiff, Nat.reduceAdd, Nat.reduceSub, Nat.reduceLeDiff, Nat.reduceMul, reduceCtorEq, Nat.reduceBEq, Int.reduceLT, Int.reduceLE, Int.reduceNeg, Int.reduceEq]; with_reducible refine hKr _ ?_; clear hKr Kr)
  by_cases h5 : k = 5
  · (refine wpc_true (by simp only [ev, lk, Nat.reduceEqDiff, ↓reduceIte, decide_true, decide_false, Bool.not_true, Bool.not_false, Bool.true_and, Bool.false_and, Bool.and_true, Bool.and_false, Bool.or_false, Bool.false_or, Bool.true_or, Bool.or_true, Bool.and_self, Bool.or_self, Int.cast_ofNat_Int, Int.natCast_inj, Int.ofNat_lt, Int.ofNat_le, Int.natCast_nonneg, eq_self, Int.reduceLT, Int.reduceLE, Int.reduceEq, Bool.false_eq_true, if_true, if_false, reduceCtorEq, and_self, and_true, true_and, and_false, false_and, h5]) ?_)
    (refine wpc_seq ?_); (refine wpc_region fun Kr hKr => ?_; simp only [go_sem, ↓reduceIte, Nat.reduceEqDiff, Nat.reduceAdd, Nat.reduceSub, Nat.reduceLeDiff, Nat.reduceMul, reduceCtorEq, Nat.reduceBEq, Int.reduceLT, Int.reduceLE, Int.reduceNeg, Int.reduceEq]; with_reducible refine hKr _ ?_; clear hKr Kr)
    (refine endsV (x := _) (σ' := _) (by simp only [retOf, retVals, oneOrTup, callArgs, callArgsL, evAll, ev, lk, shutAll, shut, nrm, nrm0, nrm1, upd, ↓reduceIte, Nat.reduceEqDiff, List.map_nil, List.map_cons, eq_self, if_true, if_false, reduceCtorEq, and_self, ownRes]; rfl) ?_)
    simp [isK, h5]
  · (refine wpc_false (by simp only [ev, lk, Nat.reduceEqDiff, ↓reduceIte, decide_true, decide_false, Bool.not_true, Bool.not_false, Bool.true_and, Bool.false_and, Bool.and_true, Bool.and_false, Bool.or_false, Bool.false_or, Bool.true_or, Bool.or_true, Bool.and_self, Bool.or_self, Int.cast_ofNat_Int, Int.natCast_inj, Int.ofNat_lt, Int.ofNat_le, Int.natCast_nonneg, eq_self, Int.reduceLT, Int.reduceLE, Int.reduceEq, Bool.false_eq_true, if_true, if_false, reduceCtorEq, and_self, and_true, true_and, and_false, false_and, h5]) ?_)
    (refine wpc_skip' ?_)
    show wpc _ (.seq _ _) _ _
    (refine wpc_seq ?_); (refine wpc_region fun Kr hKr => ?_; simp only [go_sem, ↓reduceIte, Nat.reduceEqDiff, Nat.reduceAdd, Nat.reduceSub, Nat.reduceLeDiff, Nat.reduceMul, reduceCtorEq, Nat.reduceBEq, Int.reduceLT, Int.reduceLE, Int.reduceNeg, Int.reduceEq]; with_reducible refine hKr _ ?_; clear hKr Kr)
    (refine endsV (x := _) (σ' := _) (by simp only [retOf, retVals, oneOrTup, callArgs, callArgsL, evAll, ev, lk, shutAll, shut, nrm, nrm0, nrm1, upd, ↓reduceIte, Nat.reduceEqDiff, List.map_nil, List.map_cons, eq_self, if_true, if_false, reduceCtorEq, and_self, ownRes]; rfl) ?_)
    simp [isK, h0, h1, h2, h5]

theorem ref_isKind_fc (k : Int) : FC Try.prog i_cartoucheref1_IsKind [.int .i64 k] (· = .bool (isK k)) := by
  (refine .of F_cartoucheref1_IsKind T_cartoucheref1_IsKind L_cartoucheref1_IsKind ?_; unfold A_cartoucheref1_IsKind; simp only [args0, List.map_cons, List.map_nil, List.zipIdx_cons, List.zipIdx_nil])
  (refine wpc_seq ?_); (refine wpc_region fun Kr hKr => ?_; simp only [go_sem, ↓reduceIte, Nat.reduceEqDiff, Nat.reduceAdd, Nat.reduceSub, Nat.reduceLeDiff, Nat.reduceMul, reduceCtorEq, Nat.reduceBEq, Int.reduceLT, Int.reduceLE, Int.reduceNeg, Int.reduceEq]; with_reducible refine hKr _ ?_; clear hKr Kr)
  (refine wpc_seq ?_); (refine wpc_regionI fun Kr hKr => ?_; simp only [go_sem, ↓reduceIte, Nat.reduceEqDiff, Nat.reduceAdd, Nat.reduceSub, Nat.reduceLeDiff, Nat.reduceMul, reduceCtorEq, Nat.reduceBEq, Int.reduceLT, Int.reduceLE, Int.reduceNeg, Int.reduceEq]; with_reducible refine hKr _ ?_; clear hKr Kr)
  (refine endsV (x := _) (σ' := _) (by simp only [retOf, retVals, oneOrTup, callArgs, callArgsL, evAll, ev, lk, shutAll, shut, nrm, nrm0, nrm1, upd, ↓reduceIte, Nat.reduceEqDiff, List.map_nil, List.map_cons, eq_self, if_true, if_false, reduceCtorEq, and_self, ownRes]; rfl) ?_)
  rfl

def ptS (n k : Int) : List UInt8 × Nat := if n < 1 ∨ 536870911 < n then ([], 5) else if isK k then (pvL (n * 8 + k).toNat, 0) else ([], 6)
def encPT (r : List UInt8 × Nat) : IV := .tup [.slice (r.1.map encB), .int .i64 r.2]

theorem isK_le {k : Int} (h : isK k = true) : 0 ≤ k ∧ k ≤ 7 := by
  simp only [isK, Bool.or_eq_true, decide_eq_true_eq] at h
  omega

theorem putTag_fc (n k : Int) : FC Try.prog i_wire_PutTag [.int .i64 n, .int .i64 k] (· = encPT (ptS n k)) := by
  (refine .of F_wire_PutTag T_wire_PutTag L_wire_PutTag ?_; unfold A_wire_PutTag; simp only [args0, List.map_cons, List.map_nil, List.zipIdx_cons, List.zipIdx_nil])
  (refine wpc_seq ?_); (refine wpc_region fun Kr hKr => ?_; simp only [go_sem, ↓reduceIte, Nat.reduceEqDiff, Nat.reduceAdd, Nat.reduceSub, Nat.reduceLeDiff, Nat.reduceMul, reduceCtorEq, Nat.reduceBEq, Int.reduceLT, Int.reduceLE, Int.reduceNeg, Int.reduceEq]; with_reducible refine hKr _ ?_; clear hKr Kr)
  (refine wpc_seq ?_)
  show wpc _ (.seq _ _) _ _
  (refine wpc_seq ?_); (refine wpc_regionI fun Kr hKr => ?_; simp only [go_sem, ↓reduceIte, Nat.reduceEqDiff, Nat.reduceAdd, Nat.reduceSub, Nat.reduceLeDiff, Nat.reduceMul, reduceCtorEq, Nat.reduceBEq, Int.reduceLT, Int.reduceLE, Int.reduceNeg, Int.reduceEq]; with_reducible refine hKr _ ?_; clear hKr Kr)
  by_cases hn : n < 1 ∨ 536870911 < n
  · have hb : (decide (n < 1) || decide (536870911 < n)) = true := by simpa using hn
    (refine wpc_true (by simp only [ev, lk, Nat.reduceEqDiff, ↓reduceIte, decide_true, decide_false, Bool.not_true, Bool.not_false, Bool.true_and, Bool.false_and, Bool.and_true, Bool.and_false, Bool.or_false, Bool.false_or, Bool.true_or, Bool.or_true, Bool.and_self, Bool.or_self, Int.cast_ofNat_Int, Int.natCast_inj, Int.ofNat_lt, Int.ofNat_le, Int.natCast_nonneg, eq_self, Int.reduceLT, Int.reduceLE, Int.reduceEq, Bool.false_eq_true, if_true, if_false, reduceCtorEq, and_self, and_true, true_and, and_false, false_and, hb]) ?_)
    (refine wpc_seq ?_); (refine wpc_region fun Kr hKr => ?_; simp only [go_sem, ↓reduceIte, Nat.reduceEqDiff, Nat.reduceAdd, Nat.reduceSub, Nat.reduceLeDiff, Nat.reduceMul, reduceCtorEq, Nat.reduceBEq, Int.reduceLT, Int.reduceLE, Int.reduceNeg, Int.reduceEq]; with_reducible refine hKr _ ?_; clear hKr Kr)
    (refine endsV (x := _) (σ' := _) (by simp only [retOf, retVals, oneOrTup, callArgs, callArgsL, evAll, ev, lk, shutAll, shut, nrm, nrm0, nrm1, upd, ↓reduceIte, Nat.reduceEqDiff, List.map_nil, List.map_cons, eq_self, if_true, if_false, reduceCtorEq, and_self, ownRes]; rfl) ?_)
    simp only [ptS, if_pos hn]; rfl
  have hb : (decide (n < 1) || decide (536870911 < n)) = false := by simpa using hn
  (refine wpc_false (by simp only [ev, lk, Nat.reduceEqDiff, ↓reduceIte, decide_true, decide_false, Bool.not_true, Bool.not_false, Bool.true_and, Bool.false_and, Bool.and_true, Bool.and_false, Bool.or_false, Bool.false_or, Bool.true_or, Bool.or_true, Bool.and_self, Bool.or_self, Int.cast_ofNat_Int, Int.natCast_inj, Int.ofNat_lt, Int.ofNat_le, Int.natCast_nonneg, eq_self, Int.reduceLT, Int.reduceLE, Int.reduceEq, Bool.false_eq_true, if_true, if_false, reduceCtorEq, and_self, and_true, true_and, and_false, false_and, hb]) ?_)
  (refine wpc_seq ?_); (refine wpc_region fun Kr hKr => ?_; simp only [go_sem, ↓reduceIte, Nat.reduceEqDiff, Nat.reduceAdd, Nat.reduceSub, Nat.reduceLeDiff, Nat.reduceMul, reduceCtorEq, Nat.reduceBEq, Int.reduceLT, Int.reduceLE, Int.reduceNeg, Int.reduceEq])
  (refine wpr_callE (isKind_fc k) (σ' := _) (by simp only [callArgs, callArgsL, evAll, ev, lk, shutAll, shut, nrm, nrm0, nrm1, upd, ↓reduceIte, Nat.reduceEqDiff, List.map_nil, List.map_cons, eq_self, if_true, if_false, reduceCtorEq, and_self, ownRes]; rfl) ?_; simp only [go_sem, ↓reduceIte, Nat.reduceEqDiff, Nat.reduceAdd, Nat.reduceSub, Nat.reduceLeDiff, Nat.reduceMul, reduceCtorEq, Nat.reduceBEq, Int.reduceLT, Int.reduceLE, Int.reduceNeg, Int.reduceEq])
  (with_reducible refine hKr _ ?_; clear hKr Kr)
  cases hk : isK k with
  | false =>
    (refine wpc_true (by simp only [ev, lk, Nat.reduceEqDiff, ↓reduceIte, decide_true, decide_false, Bool.not_true, Bool.not_false, Bool.true_and, Bool.false_and, Bool.and_true, Bool.and_false, Bool.or_false, Bool.false_or, Bool.true_or, Bool.or_true, Bool.and_self, Bool.or_self, Int.cast_ofNat_Int, Int.natCast_inj, Int.ofNat_lt, Int.ofNat_le, Int.natCast_nonneg, eq_self, Int.reduceLT, Int.reduceLE, Int.reduceEq, Bool.false_eq_true, if_true, if_false, reduceCtorEq, and_self, and_true, true_and, and_false, false_and, hk]) ?_)
    (refine wpc_seq ?_); (refine wpc_region fun Kr hKr => ?_; simp only [go_sem, ↓reduceIte, Nat.reduceEqDiff, Nat.reduceAdd, Nat.reduceSub, Nat.reduceLeDiff, Nat.reduceMul, reduceCtorEq, Nat.reduceBEq, Int.reduceLT, Int.reduceLE, Int.reduceNeg, Int.reduceEq]; with_reducible refine hKr _ ?_; clear hKr Kr)
    (refine endsV (x := _) (σ' := _) (by simp only [retOf, retVals, oneOrTup, callArgs, callArgsL, evAll, ev, lk, shutAll, shut, nrm, nrm0, nrm1, upd, ↓reduceIte, Nat.reduceEqDiff, List.map_nil, List.map_cons, eq_self, if_true, if_false, reduceCtorEq, and_self, ownRes]; rfl) ?_)
    simp only [ptS, if_neg hn, hk]; rfl
  | true =>
    (refine wpc_false (by simp only [ev, lk, Nat.reduceEqDiff, ↓reduceIte, decide_true, decide_false, Bool.not_true, Bool.not_false, Bool.true_and, Bool.false_and, Bool.and_true, Bool.and_false, Bool.or_false, Bool.false_or, Bool.true_or, Bool.or_true, Bool.and_self, Bool.or_self, Int.cast_ofNat_Int, Int.natCast_inj, Int.ofNat_lt, Int.ofNat_le, Int.natCast_nonneg, eq_self, Int.reduceLT, Int.reduceLE, Int.reduceEq, Bool.false_eq_true, if_true, if_false, reduceCtorEq, and_self, and_true, true_and, and_false, false_and, hk]) ?_)
    (refine wpc_skip' ?_)
    show wpc _ (.seq _ _) _ _
    have hk' := isK_le hk
    have e : IntKind.u64.wrap (IntKind.u64.wrap (IntKind.u64.wrap n * 8) + IntKind.u64.wrap k) = ((n * 8 + k).toNat : Int) := by
      rw [wrap_u64 (n := n) (by omega) (by omega), wrap_u64 (n := k) (by omega) (by omega), wrap_u64 (n := n * 8) (by omega) (by omega), wrap_u64 (by omega) (by omega)]; omega
    (refine wpc_seq ?_); (refine wpc_region fun Kr hKr => ?_; simp only [go_sem, ↓reduceIte, Nat.reduceEqDiff, Nat.reduceAdd, Nat.reduceSub, Nat.reduceLeDiff, Nat.reduceMul, reduceCtorEq, Nat.reduceBEq, Int.reduceLT, Int.reduceLE, Int.reduceNeg, Int.reduceEq, e])
    (refine wpr_callE (putVarint_fc (n * 8 + k).toNat (by omega)) (σ' := _) (by simp only [callArgs, callArgsL, evAll, ev, lk, shutAll, shut, nrm, nrm0, nrm1, upd, ↓reduceIte, Nat.reduceEqDiff, List.map_nil, List.map_cons, eq_self, if_true, if_false, reduceCtorEq, and_self, ownRes]; rfl) ?_; simp only [go_sem, ↓reduceIte, Nat.reduceEqDiff, Nat.reduceAdd, Nat.reduceSub, Nat.reduceLeDiff, Nat.reduceMul, reduceCtorEq, Nat.reduceBEq, Int.reduceLT, Int.reduceLE, Int.reduceNeg, Int.reduceEq])
    (with_reducible refine hKr _ ?_; clear hKr Kr)
    (refine endsV (x := _) (σ' := _) (by simp only [retOf, retVals, oneOrTup, callArgs, callArgsL, evAll, ev, lk, shutAll, shut, nrm, nrm0, nrm1, upd, ↓reduceIte, Nat.reduceEqDiff, List.map_nil, List.map_cons, eq_self, if_true, if_false, reduceCtorEq, and_self, ownRes]; rfl) ?_)
    simp only [ptS, if_neg hn, hk]; rfl

theorem ref_putTag_fc (n k : Int) : FC Try.prog i_cartoucheref1_PutTag [.int .i64 n, .int .i64 k] (· = encPT (ptS n k)) := by
  (refine .of F_cartoucheref1_PutTag T_cartoucheref1_PutTag L_cartoucheref1_PutTag ?_; unfold A_cartoucheref1_PutTag; simp only [args0, List.map_cons, List.map_nil, List.zipIdx_cons, List.zipIdx_nil])
  (refine wpc_seq ?_); (refine wpc_region fun Kr hKr => ?_; simp only [go_sem, ↓reduceIte, Nat.reduceEqDiff, Nat.reduceAdd, Nat.reduceSub, Nat.reduceLeDiff, Nat.reduceMul, reduceCtorEq, Nat.reduceBEq, Int.reduceLT, Int.reduceLE, Int.reduceNeg, Int.reduceEq]; with_reducible refine hKr _ ?_; clear hKr Kr)
  (refine wpc_seq ?_); (refine wpc_seq ?_); (refine wpc_regionI fun Kr hKr => ?_; simp only [go_sem, ↓reduceIte, Nat.reduceEqDiff, Nat.reduceAdd, Nat.reduceSub, Nat.reduceLeDiff, Nat.reduceMul, reduceCtorEq, Nat.reduceBEq, Int.reduceLT, Int.reduceLE, Int.reduceNeg, Int.reduceEq]; with_reducible refine hKr _ ?_; clear hKr Kr)
  by_cases hn : n < 1 ∨ 536870911 < n
  · have hb : (decide (n < 1) || decide (536870911 < n)) = true := by simpa using hn
    (refine wpc_true (by simp only [ev, lk, Nat.reduceEqDiff, ↓reduceIte, decide_true, decide_false, Bool.not_true, Bool.not_false, Bool.true_and, Bool.false_and, Bool.and_true, Bool.and_false, Bool.or_false, Bool.false_or, Bool.true_or, Bool.or_true, Bool.and_self, Bool.or_self, Int.cast_ofNat_Int, Int.natCast_inj, Int.ofNat_lt, Int.ofNat_le, Int.natCast_nonneg, eq_self, Int.reduceLT, Int.reduceLE, Int.reduceEq, Bool.false_eq_true, if_true, if_false, reduceCtorEq, and_self, and_true, true_and, and_false, false_and, hb]) ?_)
    (refine wpc_seq ?_); (refine wpc_region fun Kr hKr => ?_; simp only [go_sem, ↓reduceIte, Nat.reduceEqDiff, Nat.reduceAdd, Nat.reduceSub, Nat.reduceLeDiff, Nat.reduceMul, reduceCtorEq, Nat.reduceBEq, Int.reduceLT, Int.reduceLE, Int.reduceNeg, Int.reduceEq]; with_reducible refine hKr _ ?_; clear hKr Kr)
    (refine endsV (x := _) (σ' := _) (by simp only [retOf, retVals, oneOrTup, callArgs, callArgsL, evAll, ev, lk, shutAll, shut, nrm, nrm0, nrm1, upd, ↓reduceIte, Nat.reduceEqDiff, List.map_nil, List.map_cons, eq_self, if_true, if_false, reduceCtorEq, and_self, ownRes]; rfl) ?_)
    simp only [ptS, if_pos hn]; rfl
  have hb : (decide (n < 1) || decide (536870911 < n)) = false := by simpa using hn
  (refine wpc_false (by simp only [ev, lk, Nat.reduceEqDiff, ↓reduceIte, decide_true, decide_false, Bool.not_true, Bool.not_false, Bool.true_and, Bool.false_and, Bool.and_true, Bool.and_false, Bool.or_false, Bool.false_or, Bool.true_or, Bool.or_true, Bool.and_self, Bool.or_self, Int.cast_ofNat_Int, Int.natCast_inj, Int.ofNat_lt, Int.ofNat_le, Int.natCast_nonneg, eq_self, Int.reduceLT, Int.reduceLE, Int.reduceEq, Bool.false_eq_true, if_true, if_false, reduceCtorEq, and_self, and_true, true_and, and_false, false_and, hb]) ?_)
  (refine wpc_skip' ?_)
  (refine wpc_seq ?_); (refine wpc_seq ?_); (refine wpc_region fun Kr hKr => ?_; simp only [go_sem, ↓reduceIte, Nat.reduceEqDiff, Nat.reduceAdd, Nat.reduceSub, Nat.reduceLeDiff, Nat.reduceMul, reduceCtorEq, Nat.reduceBEq, Int.reduceLT, Int.reduceLE, Int.reduceNeg, Int.reduceEq])
  (refine wpr_callE (ref_isKind_fc k) (σ' := _) (by simp only [callArgs, callArgsL, evAll, ev, lk, shutAll, shut, nrm, nrm0, nrm1, upd, ↓reduceIte, Nat.reduceEqDiff, List.map_nil, List.map_cons, eq_self, if_true, if_false, reduceCtorEq, and_self, ownRes]; rfl) ?_; simp only [go_sem, ↓reduceIte, Nat.reduceEqDiff, Nat.reduceAdd, Nat.reduceSub, Nat.reduceLeDiff, Nat.reduceMul, reduceCtorEq, Nat.reduceBEq, Int.reduceLT, Int.reduceLE, Int.reduceNeg, Int.reduceEq])
  (with_reducible refine hKr _ ?_; clear hKr Kr)
  cases hk : isK k with
  | false =>
    (refine wpc_true (by simp only [ev, lk, Nat.reduceEqDiff, ↓reduceIte, decide_true, decide_false, Bool.not_true, Bool.not_false, Bool.true_and, Bool.false_and, Bool.and_true, Bool.and_false, Bool.or_false, Bool.false_or, Bool.true_or, Bool.or_true, Bool.and_self, Bool.or_self, Int.cast_ofNat_Int, Int.natCast_inj, Int.ofNat_lt, Int.ofNat_le, Int.natCast_nonneg, eq_self, Int.reduceLT, Int.reduceLE, Int.reduceEq, Bool.false_eq_true, if_true, if_false, reduceCtorEq, and_self, and_true, true_and, and_false, false_and, hk]) ?_)
    (refine wpc_seq ?_); (refine wpc_region fun Kr hKr => ?_; simp only [go_sem, ↓reduceIte, Nat.reduceEqDiff, Nat.reduceAdd, Nat.reduceSub, Nat.reduceLeDiff, Nat.reduceMul, reduceCtorEq, Nat.reduceBEq, Int.reduceLT, Int.reduceLE, Int.reduceNeg, Int.reduceEq]; with_reducible refine hKr _ ?_; clear hKr Kr)
    (refine endsV (x := _) (σ' := _) (by simp only [retOf, retVals, oneOrTup, callArgs, callArgsL, evAll, ev, lk, shutAll, shut, nrm, nrm0, nrm1, upd, ↓reduceIte, Nat.reduceEqDiff, List.map_nil, List.map_cons, eq_self, if_true, if_false, reduceCtorEq, and_self, ownRes]; rfl) ?_)
    simp only [ptS, if_neg hn, hk]; rfl
  | true =>
    (refine wpc_false (by simp only [ev, lk, Nat.reduceEqDiff, ↓reduceIte, decide_true, decide_false, Bool.not_true, Bool.not_false, Bool.true_and, Bool.false_and, Bool.and_true, Bool.and_false, Bool.or_false, Bool.false_or, Bool.true_or, Bool.or_true, Bool.and_self, Bool.or_self, Int.cast_ofNat_Int, Int.natCast_inj, Int.ofNat_lt, Int.ofNat_le, Int.natCast_nonneg, eq_self, Int.reduceLT, Int.reduceLE, Int.reduceEq, Bool.false_eq_true, if_true, if_false, reduceCtorEq, and_self, and_true, true_and, and_false, false_and, hk]) ?_)
    (refine wpc_skip' ?_)
    have hk' := isK_le hk
    have e : IntKind.u64.wrap (IntKind.i64.wrap (IntKind.i64.wrap (n * 8) + k)) = ((n * 8 + k).toNat : Int) := by
      rw [wrap_i64 (n := n * 8) (by omega) (by omega), wrap_i64 (by omega) (by omega), wrap_u64 (by omega) (by omega)]; omega
    (refine wpc_seq ?_); (refine wpc_region fun Kr hKr => ?_; simp only [go_sem, ↓reduceIte, Nat.reduceEqDiff, Nat.reduceAdd, Nat.reduceSub, Nat.reduceLeDiff, Nat.reduceMul, reduceCtorEq, Nat.reduceBEq, Int.reduceLT, Int.reduceLE, Int.reduceNeg, Int.reduceEq, e])
    (refine wpr_callE (ref_putVarint_fc (n * 8 + k).toNat (by omega)) (σ' := _) (by simp only [callArgs, callArgsL, evAll, ev, lk, shutAll, shut, nrm, nrm0, nrm1, upd, ↓reduceIte, Nat.reduceEqDiff, List.map_nil, List.map_cons, eq_self, if_true, if_false, reduceCtorEq, and_self, ownRes]; rfl) ?_; simp only [go_sem, ↓reduceIte, Nat.reduceEqDiff, Nat.reduceAdd, Nat.reduceSub, Nat.reduceLeDiff, Nat.reduceMul, reduceCtorEq, Nat.reduceBEq, Int.reduceLT, Int.reduceLE, Int.reduceNeg, Int.reduceEq])
    (with_reducible refine hKr _ ?_; clear hKr Kr)
    (refine endsV (x := _) (σ' := _) (by simp only [retOf, retVals, oneOrTup, callArgs, callArgsL, evAll, ev, lk, shutAll, shut, nrm, nrm0, nrm1, upd, ↓reduceIte, Nat.reduceEqDiff, List.map_nil, List.map_cons, eq_self, if_true, if_false, reduceCtorEq, and_self, ownRes]; rfl) ?_)
    simp only [ptS, if_neg hn, hk]; rfl

/-- What GetTag answers: number, kind, the place behind, the error. -/
def gtT (g : Nat × Nat × Nat) : Nat × Nat × Nat × Nat :=
  if g.2.2 = 0 then
    if g.1 / 8 = 0 ∨ 536870911 < g.1 / 8 then (0, 0, 0, 5) else if isK (g.1 % 8 : Nat) then (g.1 / 8, g.1 % 8, g.2.1, 0) else (0, 0, 0, 6)
  else (0, 0, 0, g.2.2)
def gtAt (bs : List UInt8) (k : Int) : Nat × Nat × Nat × Nat := gtT (gvAt bs k)
def encGT (r : Nat × Nat × Nat × Nat) : IV := .tup [.int .i64 r.1, .int .i64 r.2.1, .int .i64 r.2.2.1, .int .i64 r.2.2.2]

theorem getTag_fc (bs : List UInt8) (k : Int) (hb : bs.length < 4611686018427387904) : FC Try.prog i_wire_GetTag [.slice (bs.map encB), .int .i64 k] (· = encGT (gtAt bs k)) := by
  (refine .of F_wire_GetTag T_wire_GetTag L_wire_GetTag ?_; unfold A_wire_GetTag; simp only [args0, List.map_cons, List.map_nil, List.zipIdx_cons, List.zipIdx_nil])
  (refine wpc_seq ?_); (refine wpc_region fun Kr hKr => ?_; simp only [go_sem, ↓reduceIte, Nat.reduceEqDiff, Nat.reduceAdd, Nat.reduceSub, Nat.reduceLeDiff, Nat.reduceMul, reduceCtorEq, Nat.reduceBEq, Int.reduceLT, Int.reduceLE, Int.reduceNeg, Int.reduceEq]; with_reducible refine hKr _ ?_; clear hKr Kr)
  (refine wpc_seq ?_); (refine wpc_region fun Kr hKr => ?_; simp only [go_sem, ↓reduceIte, Nat.reduceEqDiff, Nat.reduceAdd, Nat.reduceSub, Nat.reduceLeDiff, Nat.reduceMul, reduceCtorEq, Nat.reduceBEq, Int.reduceLT, Int.reduceLE, Int.reduceNeg, Int.reduceEq])
  (refine wpr_callE (getVarint_fc bs k hb) (σ' := _) (by simp only [callArgs, callArgsL, evAll, ev, lk, shutAll, shut, nrm, nrm0, nrm1, upd, ↓reduceIte, Nat.reduceEqDiff, List.map_nil, List.map_cons, eq_self, if_true, if_false, reduceCtorEq, and_self, ownRes, encGV]; rfl) ?_; simp only [go_sem, ↓reduceIte, Nat.reduceEqDiff, Nat.reduceAdd, Nat.reduceSub, Nat.reduceLeDiff, Nat.reduceMul, reduceCtorEq, Nat.reduceBEq, Int.reduceLT, Int.reduceLE, Int.reduceNeg, Int.reduceEq, encGV])
  (with_reducible refine hKr _ ?_; clear hKr Kr)
  have hlt := gvAt_lt bs k
  unfold gtAt
  generalize gvAt bs k = g at hlt
  obtain ⟨n, p, e⟩ := g
  simp only at hlt
  (refine wpc_seq ?_)
  show wpc _ (.seq _ _) _ _
  (refine wpc_seq ?_); (refine wpc_region fun Kr hKr => ?_; simp only [go_sem, ↓reduceIte, Nat.reduceEqDiff, Nat.reduceAdd, Nat.reduceSub, Nat.reduceLeDiff, Nat.reduceMul, reduceCtorEq, Nat.reduceBEq, Int.reduceLT, Int.reduceLE, Int.reduceNeg, Int.reduceEq]; with_reducible refine hKr _ ?_; clear hKr Kr)
  by_cases he : e = 0
  · subst he
    (refine wpc_false (by simp only [ev, lk, Nat.reduceEqDiff, ↓reduceIte, decide_true, decide_false, Bool.not_true, Bool.not_false, Bool.true_and, Bool.false_and, Bool.and_true, Bool.and_false, Bool.or_false, Bool.false_or, Bool.true_or, Bool.or_true, Bool.and_self, Bool.or_self, Int.cast_ofNat_Int, Int.natCast_inj, Int.ofNat_lt, Int.ofNat_le, Int.natCast_nonneg, eq_self, Int.reduceLT, Int.reduceLE, Int.reduceEq, Bool.false_eq_true, if_true, if_false, reduceCtorEq, and_self, and_true, true_and, and_false, false_and]) ?_)
    have e1 : IntKind.u64.wrap (Int.tdiv (n : Int) 8) = ((n / 8 : Nat) : Int) := by rw [IntWalk.u64_quo _ _ ⟨by omega, by omega, by omega⟩]; omega
    have e2 : Int.tmod (n : Int) 8 = ((n % 8 : Nat) : Int) := by rw [IntWalk.rem_in _ _ (by omega)]; omega
    have e3 : IntKind.i64.wrap ((n % 8 : Nat) : Int) = ((n % 8 : Nat) : Int) := wrap_i64 (by omega) (by omega)
    have e4 : IntKind.i64.wrap ((n / 8 : Nat) : Int) = ((n / 8 : Nat) : Int) := wrap_i64 (by omega) (by omega)
    (refine wpc_seq ?_); (refine wpc_regionI fun Kr hKr => ?_; simp only [go_sem, ↓reduceIte, Nat.reduceEqDiff, Nat.reduceAdd, Nat.reduceSub, Nat.reduceLeDiff, Nat.reduceMul, reduceCtorEq, Nat.reduceBEq, Int.reduceLT, Int.reduceLE, Int.reduceNeg, Int.reduceEq, e1]; with_reducible refine hKr _ ?_; clear hKr Kr)
    have c1 : (((n / 8 : Nat) : Int) = 0) ↔ n / 8 = 0 := by omega
    have c2 : ((536870911 : Int) < ((n / 8 : Nat) : Int)) ↔ 536870911 < n / 8 := by omega
    by_cases hn : n / 8 = 0 ∨ 536870911 < n / 8
    · have hb : (decide (n / 8 = 0) || decide (536870911 < n / 8)) = true := by simpa using hn
      (refine wpc_true (by simp only [ev, lk, Nat.reduceEqDiff, ↓reduceIte, decide_true, decide_false, Bool.not_true, Bool.not_false, Bool.true_and, Bool.false_and, Bool.and_true, Bool.and_false, Bool.or_false, Bool.false_or, Bool.true_or, Bool.or_true, Bool.and_self, Bool.or_self, Int.cast_ofNat_Int, Int.natCast_inj, Int.ofNat_lt, Int.ofNat_le, Int.natCast_nonneg, eq_self, Int.reduceLT, Int.reduceLE, Int.reduceEq, Bool.false_eq_true, if_true, if_false, reduceCtorEq, and_self, and_true, true_and, and_false, false_and, c1, c2, hb]) ?_)
      (refine wpc_seq ?_); (refine wpc_region fun Kr hKr => ?_; simp only [go_sem, ↓reduceIte, Nat.reduceEqDiff, Nat.reduceAdd, Nat.reduceSub, Nat.reduceLeDiff, Nat.reduceMul, reduceCtorEq, Nat.reduceBEq, Int.reduceLT, Int.reduceLE, Int.reduceNeg, Int.reduceEq]; with_reducible refine hKr _ ?_; clear hKr Kr)
      (refine endsV (x := _) (σ' := _) (by simp only [retOf, retVals, oneOrTup, callArgs, callArgsL, evAll, ev, lk, shutAll, shut, nrm, nrm0, nrm1, upd, ↓reduceIte, Nat.reduceEqDiff, List.map_nil, List.map_cons, eq_self, if_true, if_false, reduceCtorEq, and_self, ownRes]; rfl) ?_)
      simp only [gtT, if_true, if_pos hn]; rfl
    have hb : (decide (n / 8 = 0) || decide (536870911 < n / 8)) = false := by simpa using hn
    (refine wpc_false (by simp only [ev, lk, Nat.reduceEqDiff, ↓reduceIte, decide_true, decide_false, Bool.not_true, Bool.not_false, Bool.true_and, Bool.false_and, Bool.and_true, Bool.and_false, Bool.or_false, Bool.false_or, Bool.true_or, Bool.or_true, Bool.and_self, Bool.or_self, Int.cast_ofNat_Int, Int.natCast_inj, Int.ofNat_lt, Int.ofNat_le, Int.natCast_nonneg, eq_self, Int.reduceLT, Int.reduceLE, Int.reduceEq, Bool.false_eq_true, if_true, if_false, reduceCtorEq, and_self, and_true, true_and, and_false, false_and, c1, c2, hb]) ?_)
    (refine wpc_seq ?_); (refine wpc_region fun Kr hKr => ?_; simp only [go_sem, ↓reduceIte, Nat.reduceEqDiff, Nat.reduceAdd, Nat.reduceSub, Nat.reduceLeDiff, Nat.reduceMul, reduceCtorEq, Nat.reduceBEq, Int.reduceLT, Int.reduceLE, Int.reduceNeg, Int.reduceEq, e2, e3])
    (refine wpr_callE (isKind_fc ((n % 8 : Nat) : Int)) (σ' := _) (by simp only [callArgs, callArgsL, evAll, ev, lk, shutAll, shut, nrm, nrm0, nrm1, upd, ↓reduceIte, Nat.reduceEqDiff, List.map_nil, List.map_cons, eq_self, if_true, if_false, reduceCtorEq, and_self, ownRes]; rfl) ?_; simp only [go_sem, ↓reduceIte, Nat.reduceEqDiff, Nat.reduceAdd, Nat.reduceSub, Nat.reduceLeDiff, Nat.reduceMul, reduceCtorEq, Nat.reduceBEq, Int.reduceLT, Int.reduceLE, Int.reduceNeg, Int.reduceEq])
    (with_reducible refine hKr _ ?_; clear hKr Kr)
    cases hk : isK ((n % 8 : Nat) : Int) with
    | false =>
      (refine wpc_true (by simp only [ev, lk, Nat.reduceEqDiff, ↓reduceIte, decide_true, decide_false, Bool.not_true, Bool.not_false, Bool.true_and, Bool.false_and, Bool.and_true, Bool.and_false, Bool.or_false, Bool.false_or, Bool.true_or, Bool.or_true, Bool.and_self, Bool.or_self, Int.cast_ofNat_Int, Int.natCast_inj, Int.ofNat_lt, Int.ofNat_le, Int.natCast_nonneg, eq_self, Int.reduceLT, Int.reduceLE, Int.reduceEq, Bool.false_eq_true, if_true, if_false, reduceCtorEq, and_self, and_true, true_and, and_false, false_and, hk]) ?_)
      (refine wpc_seq ?_); (refine wpc_region fun Kr hKr => ?_; simp only [go_sem, ↓reduceIte, Nat.reduceEqDiff, Nat.reduceAdd, Nat.reduceSub, Nat.reduceLeDiff, Nat.reduceMul, reduceCtorEq, Nat.reduceBEq, Int.reduceLT, Int.reduceLE, Int.reduceNeg, Int.reduceEq]; with_reducible refine hKr _ ?_; clear hKr Kr)
      (refine endsV (x := _) (σ' := _) (by simp only [retOf, retVals, oneOrTup, callArgs, callArgsL, evAll, ev, lk, shutAll, shut, nrm, nrm0, nrm1, upd, ↓reduceIte, Nat.reduceEqDiff, List.map_nil, List.map_cons, eq_self, if_true, if_false, reduceCtorEq, and_self, ownRes]; rfl) ?_)
      simp only [gtT, if_true, if_neg hn, hk]; rfl
    | true =>
      (refine wpc_false (by simp only [ev, lk, Nat.reduceEqDiff, ↓reduceIte, decide_true, decide_false, Bool.not_true, Bool.not_false, Bool.true_and, Bool.false_and, Bool.and_true, Bool.and_false, Bool.or_false, Bool.false_or, Bool.true_or, Bool.or_true, Bool.and_self, Bool.or_self, Int.cast_ofNat_Int, Int.natCast_inj, Int.ofNat_lt, Int.ofNat_le, Int.natCast_nonneg, eq_self, Int.reduceLT, Int.reduceLE, Int.reduceEq, Bool.false_eq_true, if_true, if_false, reduceCtorEq, and_self, and_true, true_and, and_false, false_and, hk]) ?_)
      (refine wpc_skip' ?_)
      show wpc _ (.seq _ _) _ _
      (refine wpc_seq ?_); (refine wpc_region fun Kr hKr => ?_; simp only [go_sem, ↓reduceIte, Nat.reduceEqDiff, Nat.reduceAdd, Nat.reduceSub, Nat.reduceLeDiff, Nat.reduceMul, reduceCtorEq, Nat.reduceBEq, Int.reduceLT, Int.reduceLE, Int.reduceNeg, Int.reduceEq, e1, e2, e3, e4]; with_reducible refine hKr _ ?_; clear hKr Kr)
      (refine endsV (x := _) (σ' := _) (by simp only [retOf, retVals, oneOrTup, callArgs, callArgsL, evAll, ev, lk, shutAll, shut, nrm, nrm0, nrm1, upd, ↓reduceIte, Nat.reduceEqDiff, List.map_nil, List.map_cons, eq_self, if_true, if_false, reduceCtorEq, and_self, ownRes]; rfl) ?_)
      simp only [gtT, if_true, if_neg hn, hk]; rfl
  · have he' : ¬ ((e : Int) = 0) := by omega
    (refine wpc_true (by simp only [ev, lk, Nat.reduceEqDiff, ↓reduceIte, decide_true, decide_false, Bool.not_true, Bool.not_false, Bool.true_and, Bool.false_and, Bool.and_true, Bool.and_false, Bool.or_false, Bool.false_or, Bool.true_or, Bool.or_true, Bool.and_self, Bool.or_self, Int.cast_ofNat_Int, Int.natCast_inj, Int.ofNat_lt, Int.ofNat_le, Int.natCast_nonneg, eq_self, Int.reduceLT, Int.reduceLE, Int.reduceEq, Bool.false_eq_true, if_true, if_false, reduceCtorEq, and_self, and_true, true_and, and_false, false_and, he']) ?_)
    (refine wpc_seq ?_); (refine wpc_region fun Kr hKr => ?_; simp only [go_sem, ↓reduceIte, Nat.reduceEqDiff, Nat.reduceAdd, Nat.reduceSub, Nat.reduceLeDiff, Nat.reduceMul, reduceCtorEq, Nat.reduceBEq, Int.reduceLT, Int.reduceLE, Int.reduceNeg, Int.reduceEq]; with_reducible refine hKr _ ?_; clear hKr Kr)
    (refine endsV (x := _) (σ' := _) (by simp only [retOf, retVals, oneOrTup, callArgs, callArgsL, evAll, ev, lk, shutAll, shut, nrm, nrm0, nrm1, upd, ↓reduceIte, Nat.reduceEqDiff, List.map_nil, List.map_cons, eq_self, if_true, if_false, reduceCtorEq, and_self, ownRes]; rfl) ?_)
    simp only [gtT, if_neg he]; rfl

theorem ref_getTag_fc (bs : List UInt8) (a : Nat) (ha : a ≤ bs.length) (hb : bs.length < 4611686018427387904) : FC Try.prog i_cartoucheref1_GetTag [.slice (bs.map encB), .int .i64 (a : Int)] (· = encGT (gtAt bs a)) := by
  (refine .of F_cartoucheref1_GetTag T_cartoucheref1_GetTag L_cartoucheref1_GetTag ?_; unfold A_cartoucheref1_GetTag; simp only [args0, List.map_cons, List.map_nil, List.zipIdx_cons, List.zipIdx_nil])
  (refine wpc_seq ?_); (refine wpc_region fun Kr hKr => ?_; simp only [go_sem, ↓reduceIte, Nat.reduceEqDiff, Nat.reduceAdd, Nat.reduceSub, Nat.reduceLeDiff, Nat.reduceMul, reduceCtorEq, Nat.reduceBEq, Int.reduceLT, Int.reduceLE, Int.reduceNeg, Int.reduceEq]; with_reducible refine hKr _ ?_; clear hKr Kr)
  (refine wpc_seq ?_); (refine wpc_region fun Kr hKr => ?_; simp only [go_sem, ↓reduceIte, Nat.reduceEqDiff, Nat.reduceAdd, Nat.reduceSub, Nat.reduceLeDiff, Nat.reduceMul, reduceCtorEq, Nat.reduceBEq, Int.reduceLT, Int.reduceLE, Int.reduceNeg, Int.reduceEq])
  (refine wpr_callE (ref_getVarint_fc bs a ha hb) (σ' := _) (by simp only [callArgs, callArgsL, evAll, ev, lk, shutAll, shut, nrm, nrm0, nrm1, upd, ↓reduceIte, Nat.reduceEqDiff, List.map_nil, List.map_cons, eq_self, if_true, if_false, reduceCtorEq, and_self, ownRes, encGV]; rfl) ?_; simp only [go_sem, ↓reduceIte, Nat.reduceEqDiff, Nat.reduceAdd, Nat.reduceSub, Nat.reduceLeDiff, Nat.reduceMul, reduceCtorEq, Nat.reduceBEq, Int.reduceLT, Int.reduceLE, Int.reduceNeg, Int.reduceEq, encGV])
  (with_reducible refine hKr _ ?_; clear hKr Kr)
  have hlt := gvAt_lt bs a
  unfold gtAt
  generalize gvAt bs a = g at hlt
  obtain ⟨n, p, e⟩ := g
  simp only at hlt
  (refine wpc_seq ?_); (refine wpc_seq ?_); (refine wpc_region fun Kr hKr => ?_; simp only [go_sem, ↓reduceIte, Nat.reduceEqDiff, Nat.reduceAdd, Nat.reduceSub, Nat.reduceLeDiff, Nat.reduceMul, reduceCtorEq, Nat.reduceBEq, Int.reduceLT, Int.reduceLE, Int.reduceNeg, Int.reduceEq]; with_reducible refine hKr _ ?_; clear hKr Kr)
  by_cases he : e = 0
  · subst he
    (refine wpc_false (by simp only [ev, lk, Nat.reduceEqDiff, ↓reduceIte, decide_true, decide_false, Bool.not_true, Bool.not_false, Bool.true_and, Bool.false_and, Bool.and_true, Bool.and_false, Bool.or_false, Bool.false_or, Bool.true_or, Bool.or_true, Bool.and_self, Bool.or_self, Int.cast_ofNat_Int, Int.natCast_inj, Int.ofNat_lt, Int.ofNat_le, Int.natCast_nonneg, eq_self, Int.reduceLT, Int.reduceLE, Int.reduceEq, Bool.false_eq_true, if_true, if_false, reduceCtorEq, and_self, and_true, true_and, and_false, false_and]) ?_)
    (refine wpc_skip' ?_)
    have e1 : IntKind.u64.wrap (Int.tdiv (n : Int) 8) = ((n / 8 : Nat) : Int) := by rw [IntWalk.u64_quo _ _ ⟨by omega, by omega, by omega⟩]; omega
    have e2 : Int.tmod (n : Int) 8 = ((n % 8 : Nat) : Int) := by rw [IntWalk.rem_in _ _ (by omega)]; omega
    have e3 : IntKind.i64.wrap ((n % 8 : Nat) : Int) = ((n % 8 : Nat) : Int) := wrap_i64 (by omega) (by omega)
    have e4 : IntKind.i64.wrap ((n / 8 : Nat) : Int) = ((n / 8 : Nat) : Int) := wrap_i64 (by omega) (by omega)
    (refine wpc_seq ?_); (refine wpc_seq ?_); (refine wpc_regionI fun Kr hKr => ?_; simp only [go_sem, ↓reduceIte, Nat.reduceEqDiff, Nat.reduceAdd, Nat.reduceSub, Nat.reduceLeDiff, Nat.reduceMul, reduceCtorEq, Nat.reduceBEq, Int.reduceLT, Int.reduceLE, Int.reduceNeg, Int.reduceEq, e1]; with_reducible refine hKr _ ?_; clear hKr Kr)
    have c1 : (((n / 8 : Nat) : Int) = 0) ↔ n / 8 = 0 := by omega
    have c2 : ((536870911 : Int) < ((n / 8 : Nat) : Int)) ↔ 536870911 < n / 8 := by omega
    by_cases hn : n / 8 = 0 ∨ 536870911 < n / 8
    · have hb : (decide (n / 8 = 0) || decide (536870911 < n / 8)) = true := by simpa using hn
      (refine wpc_true (by simp only [ev, lk, Nat.reduceEqDiff, ↓reduceIte, decide_true, decide_false, Bool.not_true, Bool.not_false, Bool.true_and, Bool.false_and, Bool.and_true, Bool.and_false, Bool.or_false, Bool.false_or, Bool.true_or, Bool.or_true, Bool.and_self, Bool.or_self, Int.cast_ofNat_Int, Int.natCast_inj, Int.ofNat_lt, Int.ofNat_le, Int.natCast_nonneg, eq_self, Int.reduceLT, Int.reduceLE, Int.reduceEq, Bool.false_eq_true, if_true, if_false, reduceCtorEq, and_self, and_true, true_and, and_false, false_and, c1, c2, hb]) ?_)
      (refine wpc_seq ?_); (refine wpc_region fun Kr hKr => ?_; simp only [go_sem, ↓reduceIte, Nat.reduceEqDiff, Nat.reduceAdd, Nat.reduceSub, Nat.reduceLeDiff, Nat.reduceMul, reduceCtorEq, Nat.reduceBEq, Int.reduceLT, Int.reduceLE, Int.reduceNeg, Int.reduceEq]; with_reducible refine hKr _ ?_; clear hKr Kr)
      (refine endsV (x := _) (σ' := _) (by simp only [retOf, retVals, oneOrTup, callArgs, callArgsL, evAll, ev, lk, shutAll, shut, nrm, nrm0, nrm1, upd, ↓reduceIte, Nat.reduceEqDiff, List.map_nil, List.map_cons, eq_self, if_true, if_false, reduceCtorEq, and_self, ownRes]; rfl) ?_)
      simp only [gtT, if_true, if_pos hn]; rfl
    have hb : (decide (n / 8 = 0) || decide (536870911 < n / 8)) = false := by simpa using hn
    (refine wpc_false (by simp only [ev, lk, Nat.reduceEqDiff, ↓reduceIte, decide_true, decide_false, Bool.not_true, Bool.not_false, Bool.true_and, Bool.false_and, Bool.and_true, Bool.and_false, Bool.or_false, Bool.false_or, Bool.true_or, Bool.or_true, Bool.and_self, Bool.or_self, Int.cast_ofNat_Int, Int.natCast_inj, Int.ofNat_lt, Int.ofNat_le, Int.natCast_nonneg, eq_self, Int.reduceLT, Int.reduceLE, Int.reduceEq, Bool.false_eq_true, if_true, if_false, reduceCtorEq, and_self, and_true, true_and, and_false, false_and, c1, c2, hb]) ?_)
    (refine wpc_skip' ?_)
    (refine wpc_seq ?_); (refine wpc_seq ?_); (refine wpc_region fun Kr hKr => ?_; simp only [go_sem, ↓reduceIte, Nat.reduceEqDiff, Nat.reduceAdd, Nat.reduceSub, Nat.reduceLeDiff, Nat.reduceMul, reduceCtorEq, Nat.reduceBEq, Int.reduceLT, Int.reduceLE, Int.reduceNeg, Int.reduceEq, e2, e3])
    (refine wpr_callE (ref_isKind_fc ((n % 8 : Nat) : Int)) (σ' := _) (by simp only [callArgs, callArgsL, evAll, ev, lk, shutAll, shut, nrm, nrm0, nrm1, upd, ↓reduceIte, Nat.reduceEqDiff, List.map_nil, List.map_cons, eq_self, if_true, if_false, reduceCtorEq, and_self, ownRes]; rfl) ?_; simp only [go_sem, ↓reduceIte, Nat.reduceEqDiff, Nat.reduceAdd, Nat.reduceSub, Nat.reduceLeDiff, Nat.reduceMul, reduceCtorEq, Nat.reduceBEq, Int.reduceLT, Int.reduceLE, Int.reduceNeg, Int.reduceEq])
    (with_reducible refine hKr _ ?_; clear hKr Kr)
    cases hk : isK ((n % 8 : Nat) : Int) with
    | false =>
      (refine wpc_true (by simp only [ev, lk, Nat.reduceEqDiff, ↓reduceIte, decide_true, decide_false, Bool.not_true, Bool.not_false, Bool.true_and, Bool.false_and, Bool.and_true, Bool.and_false, Bool.or_false, Bool.false_or, Bool.true_or, Bool.or_true, Bool.and_self, Bool.or_self, Int.cast_ofNat_Int, Int.natCast_inj, Int.ofNat_lt, Int.ofNat_le, Int.natCast_nonneg, eq_self, Int.reduceLT, Int.reduceLE, Int.reduceEq, Bool.false_eq_true, if_true, if_false, reduceCtorEq, and_self, and_true, true_and, and_false, false_and, hk]) ?_)
      (refine wpc_seq ?_); (refine wpc_region fun Kr hKr => ?_; simp only [go_sem, ↓reduceIte, Nat.reduceEqDiff, Nat.reduceAdd, Nat.reduceSub, Nat.reduceLeDiff, Nat.reduceMul, reduceCtorEq, Nat.reduceBEq, Int.reduceLT, Int.reduceLE, Int.reduceNeg, Int.reduceEq]; with_reducible refine hKr _ ?_; clear hKr Kr)
      (refine endsV (x := _) (σ' := _) (by simp only [retOf, retVals, oneOrTup, callArgs, callArgsL, evAll, ev, lk, shutAll, shut, nrm, nrm0, nrm1, upd, ↓reduceIte, Nat.reduceEqDiff, List.map_nil, List.map_cons, eq_self, if_true, if_false, reduceCtorEq, and_self, ownRes]; rfl) ?_)
      simp only [gtT, if_true, if_neg hn, hk]; rfl
    | true =>
      (refine wpc_false (by simp only [ev, lk, Nat.reduceEqDiff, ↓reduceIte, decide_true, decide_false, Bool.not_true, Bool.not_false, Bool.true_and, Bool.false_and, Bool.and_true, Bool.and_false, Bool.or_false, Bool.false_or, Bool.true_or, Bool.or_true, Bool.and_self, Bool.or_self, Int.cast_ofNat_Int, Int.natCast_inj, Int.ofNat_lt, Int.ofNat_le, Int.natCast_nonneg, eq_self, Int.reduceLT, Int.reduceLE, Int.reduceEq, Bool.false_eq_true, if_true, if_false, reduceCtorEq, and_self, and_true, true_and, and_false, false_and, hk]) ?_)
      (refine wpc_skip' ?_)
      (refine wpc_seq ?_); (refine wpc_region fun Kr hKr => ?_; simp only [go_sem, ↓reduceIte, Nat.reduceEqDiff, Nat.reduceAdd, Nat.reduceSub, Nat.reduceLeDiff, Nat.reduceMul, reduceCtorEq, Nat.reduceBEq, Int.reduceLT, Int.reduceLE, Int.reduceNeg, Int.reduceEq, e1, e2, e3, e4]; with_reducible refine hKr _ ?_; clear hKr Kr)
      (refine endsV (x := _) (σ' := _) (by simp only [retOf, retVals, oneOrTup, callArgs, callArgsL, evAll, ev, lk, shutAll, shut, nrm, nrm0, nrm1, upd, ↓reduceIte, Nat.reduceEqDiff, List.map_nil, List.map_cons, eq_self, if_true, if_false, reduceCtorEq, and_self, ownRes]; rfl) ?_)
      simp only [gtT, if_true, if_neg hn, hk]; rfl
  · have he' : ¬ ((e : Int) = 0) := by omega
    (refine wpc_true (by simp only [ev, lk, Nat.reduceEqDiff, ↓reduceIte, decide_true, decide_false, Bool.not_true, Bool.not_false, Bool.true_and, Bool.false_and, Bool.and_true, Bool.and_false, Bool.or_false, Bool.false_or, Bool.true_or, Bool.or_true, Bool.and_self, Bool.or_self, Int.cast_ofNat_Int, Int.natCast_inj, Int.ofNat_lt, Int.ofNat_le, Int.natCast_nonneg, eq_self, Int.reduceLT, Int.reduceLE, Int.reduceEq, Bool.false_eq_true, if_true, if_false, reduceCtorEq, and_self, and_true, true_and, and_false, false_and, he']) ?_)
    (refine wpc_seq ?_); (refine wpc_region fun Kr hKr => ?_; simp only [go_sem, ↓reduceIte, Nat.reduceEqDiff, Nat.reduceAdd, Nat.reduceSub, Nat.reduceLeDiff, Nat.reduceMul, reduceCtorEq, Nat.reduceBEq, Int.reduceLT, Int.reduceLE, Int.reduceNeg, Int.reduceEq]; with_reducible refine hKr _ ?_; clear hKr Kr)
    (refine endsV (x := _) (σ' := _) (by simp only [retOf, retVals, oneOrTup, callArgs, callArgsL, evAll, ev, lk, shutAll, shut, nrm, nrm0, nrm1, upd, ↓reduceIte, Nat.reduceEqDiff, List.map_nil, List.map_cons, eq_self, if_true, if_false, reduceCtorEq, and_self, ownRes]; rfl) ?_)
    simp only [gtT, if_neg he]; rfl

theorem wireTags_fc (n q : Int) (bs : List UInt8) (hb : bs.length < 4611686018427387904) (k : Int) :
    FC Try.prog i_cartouchelaw1_WireTags [.int .i64 n, .int .i64 q, .slice (bs.map encB), .int .i64 k] (· = .bool true) := by
  (refine .of F_cartouchelaw1_WireTags T_cartouchelaw1_WireTags L_cartouchelaw1_WireTags ?_; unfold A_cartouchelaw1_WireTags; simp only [args0, List.map_cons, List.map_nil, List.zipIdx_cons, List.zipIdx_nil])
  (refine wpc_seq ?_); (refine wpc_region fun Kr hKr => ?_; simp only [go_sem, ↓reduceIte, Nat.reduceEqDiff, Nat.reduceAdd, Nat.reduceSub, Nat.reduceLeDiff, Nat.reduceMul, reduceCtorEq, Nat.reduceBEq, Int.reduceLT, Int.reduceLE, Int.reduceNeg, Int.reduceEq]; with_reducible refine hKr _ ?_; clear hKr Kr)
  (refine wpc_seq ?_); (refine wpc_region fun Kr hKr => ?_; simp only [go_sem, ↓reduceIte, Nat.reduceEqDiff, Nat.reduceAdd, Nat.reduceSub, Nat.reduceLeDiff, Nat.reduceMul, reduceCtorEq, Nat.reduceBEq, Int.reduceLT, Int.reduceLE, Int.reduceNeg, Int.reduceEq])
  (refine wpr_callE (putTag_fc n q) (σ' := _) (by simp only [callArgs, callArgsL, evAll, ev, lk, shutAll, shut, nrm, nrm0, nrm1, upd, ↓reduceIte, Nat.reduceEqDiff, List.map_nil, List.map_cons, eq_self, if_true, if_false, reduceCtorEq, and_self, ownRes, encPT]; rfl) ?_; simp only [go_sem, ↓reduceIte, Nat.reduceEqDiff, Nat.reduceAdd, Nat.reduceSub, Nat.reduceLeDiff, Nat.reduceMul, reduceCtorEq, Nat.reduceBEq, Int.reduceLT, Int.reduceLE, Int.reduceNeg, Int.reduceEq, encPT])
  (with_reducible refine hKr _ ?_; clear hKr Kr)
  (refine wpc_seq ?_); (refine wpc_region fun Kr hKr => ?_; simp only [go_sem, ↓reduceIte, Nat.reduceEqDiff, Nat.reduceAdd, Nat.reduceSub, Nat.reduceLeDiff, Nat.reduceMul, reduceCtorEq, Nat.reduceBEq, Int.reduceLT, Int.reduceLE, Int.reduceNeg, Int.reduceEq])
  (refine wpr_callE (getTag_fc bs k hb) (σ' := _) (by simp only [callArgs, callArgsL, evAll, ev, lk, shutAll, shut, nrm, nrm0, nrm1, upd, ↓reduceIte, Nat.reduceEqDiff, List.map_nil, List.map_cons, eq_self, if_true, if_false, reduceCtorEq, and_self, ownRes, encGT]; rfl) ?_; simp only [go_sem, ↓reduceIte, Nat.reduceEqDiff, Nat.reduceAdd, Nat.reduceSub, Nat.reduceLeDiff, Nat.reduceMul, reduceCtorEq, Nat.reduceBEq, Int.reduceLT, Int.reduceLE, Int.reduceNeg, Int.reduceEq, encGT])
  (with_reducible refine hKr _ ?_; clear hKr Kr)
  (refine wpc_seq ?_); (refine wpc_region fun Kr hKr => ?_; simp only [go_sem, ↓reduceIte, Nat.reduceEqDiff, Nat.reduceAdd, Nat.reduceSub, Nat.reduceLeDiff, Nat.reduceMul, reduceCtorEq, Nat.reduceBEq, Int.reduceLT, Int.reduceLE, Int.reduceNeg, Int.reduceEq])
  (refine wpr_callE (ref_putTag_fc n q) (σ' := _) (by simp only [callArgs, callArgsL, evAll, ev, lk, shutAll, shut, nrm, nrm0, nrm1, upd, ↓reduceIte, Nat.reduceEqDiff, List.map_nil, List.map_cons, eq_self, if_true, if_false, reduceCtorEq, and_self, ownRes, encPT]; rfl) ?_; simp only [go_sem, ↓reduceIte, Nat.reduceEqDiff, Nat.reduceAdd, Nat.reduceSub, Nat.reduceLeDiff, Nat.reduceMul, reduceCtorEq, Nat.reduceBEq, Int.reduceLT, Int.reduceLE, Int.reduceNeg, Int.reduceEq, encPT])
  (with_reducible refine hKr _ ?_; clear hKr Kr)
  (refine wpc_seq ?_); (refine wpc_seq ?_); (refine wpc_region fun Kr hKr => ?_; simp only [go_sem, ↓reduceIte, Nat.reduceEqDiff, Nat.reduceAdd, Nat.reduceSub, Nat.reduceLeDiff, Nat.reduceMul, reduceCtorEq, Nat.reduceBEq, Int.reduceLT, Int.reduceLE, Int.reduceNeg, Int.reduceEq])
  (refine wpr_callE (awake_fc) (σ' := _) (by simp only [callArgs, callArgsL, evAll, ev, lk, shutAll, shut, nrm, nrm0, nrm1, upd, ↓reduceIte, Nat.reduceEqDiff, List.map_nil, List.map_cons, eq_self, if_true, if_false, reduceCtorEq, and_self, ownRes]; rfl) ?_; simp only [go_sem, ↓reduceIte, Nat.reduceEqDiff, Nat.reduceAdd, Nat.reduceSub, Nat.reduceLeDiff, Nat.reduceMul, reduceCtorEq, Nat.reduceBEq, Int.reduceLT, Int.reduceLE, Int.reduceNeg, Int.reduceEq])
  (refine wpr_callT (same_fc _ _) (σ' := _) (by simp only [ev, lk, Nat.reduceEqDiff, ↓reduceIte, decide_true, decide_false, Bool.not_true, Bool.not_false, Bool.true_and, Bool.false_and, Bool.and_true, Bool.and_false, Bool.or_false, Bool.false_or, Bool.true_or, Bool.or_true, Bool.and_self, Bool.or_self, Int.cast_ofNat_Int, Int.natCast_inj, Int.ofNat_lt, Int.ofNat_le, Int.natCast_nonneg, eq_self, Int.reduceLT, Int.reduceLE, Int.reduceEq, Bool.false_eq_true, if_true, if_false, reduceCtorEq, and_self, and_true, true_and, and_false, false_and]) (by simp only [callArgs, callArgsL, evAll, ev, lk, shutAll, shut, nrm, nrm0, nrm1, upd, ↓reduceIte, Nat.reduceEqDiff, List.map_nil, List.map_cons, eq_self, if_true, if_false, reduceCtorEq, and_self, ownRes]; rfl) ?_; simp only [go_sem, ↓reduceIte, Nat.reduceEqDiff, Nat.reduceAdd, Nat.reduceSub, Nat.reduceLeDiff, Nat.reduceMul, reduceCtorEq, Nat.reduceBEq, Int.reduceLT, Int.reduceLE, Int.reduceNeg, Int.reduceEq])
  (with_reducible refine hKr _ ?_; clear hKr Kr)
  (refine wpc_false (by simp only [ev, lk, Nat.reduceEqDiff, ↓reduceIte, decide_true, decide_false, Bool.not_true, Bool.not_false, Bool.true_and, Bool.false_and, Bool.and_true, Bool.and_false, Bool.or_false, Bool.false_or, Bool.true_or, Bool.or_true, Bool.and_self, Bool.or_self, Int.cast_ofNat_Int, Int.natCast_inj, Int.ofNat_lt, Int.ofNat_le, Int.natCast_nonneg, eq_self, Int.reduceLT, Int.reduceLE, Int.reduceEq, Bool.false_eq_true, if_true, if_false, reduceCtorEq, and_self, and_true, true_and, and_false, false_and]) ?_)
  (refine wpc_skip' ?_)
  (refine wpc_seq ?_); (refine wpc_seq ?_); (refine wpc_regionI fun Kr hKr => ?_; simp only [go_sem, ↓reduceIte, Nat.reduceEqDiff, Nat.reduceAdd, Nat.reduceSub, Nat.reduceLeDiff, Nat.reduceMul, reduceCtorEq, Nat.reduceBEq, Int.reduceLT, Int.reduceLE, Int.reduceNeg, Int.reduceEq]; with_reducible refine hKr _ ?_; clear hKr Kr)
  by_cases hp : 0 ≤ k ∧ k ≤ bs.length
  · obtain ⟨hk0, hk1⟩ := hp
    obtain ⟨a, rfl⟩ := Int.eq_ofNat_of_zero_le hk0
    have g1 : ¬ ((a : Int) < 0) := by omega
    have g2 : ¬ ((bs.length : Int) < (a : Int)) := by omega
    (refine wpc_false (by simp only [ev, lk, Nat.reduceEqDiff, ↓reduceIte, decide_true, decide_false, Bool.not_true, Bool.not_false, Bool.true_and, Bool.false_and, Bool.and_true, Bool.and_false, Bool.or_false, Bool.false_or, Bool.true_or, Bool.or_true, Bool.and_self, Bool.or_self, Int.cast_ofNat_Int, Int.natCast_inj, Int.ofNat_lt, Int.ofNat_le, Int.natCast_nonneg, eq_self, Int.reduceLT, Int.reduceLE, Int.reduceEq, Bool.false_eq_true, if_true, if_false, reduceCtorEq, and_self, and_true, true_and, and_false, false_and, g1, g2]) ?_)
    (refine wpc_skip' ?_)
    (refine wpc_seq ?_); (refine wpc_region fun Kr hKr => ?_; simp only [go_sem, ↓reduceIte, Nat.reduceEqDiff, Nat.reduceAdd, Nat.reduceSub, Nat.reduceLeDiff, Nat.reduceMul, reduceCtorEq, Nat.reduceBEq, Int.reduceLT, Int.reduceLE, Int.reduceNeg, Int.reduceEq])
    (refine wpr_callE (ref_getTag_fc bs a (by omega) hb) (σ' := _) (by simp only [callArgs, callArgsL, evAll, ev, lk, shutAll, shut, nrm, nrm0, nrm1, upd, ↓reduceIte, Nat.reduceEqDiff, List.map_nil, List.map_cons, eq_self, if_true, if_false, reduceCtorEq, and_self, ownRes, encGT]; rfl) ?_; simp only [go_sem, ↓reduceIte, Nat.reduceEqDiff, Nat.reduceAdd, Nat.reduceSub, Nat.reduceLeDiff, Nat.reduceMul, reduceCtorEq, Nat.reduceBEq, Int.reduceLT, Int.reduceLE, Int.reduceNeg, Int.reduceEq, encGT])
    (with_reducible refine hKr _ ?_; clear hKr Kr)
    (refine wpc_seq ?_); (refine wpc_region fun Kr hKr => ?_; simp only [go_sem, ↓reduceIte, Nat.reduceEqDiff, Nat.reduceAdd, Nat.reduceSub, Nat.reduceLeDiff, Nat.reduceMul, reduceCtorEq, Nat.reduceBEq, Int.reduceLT, Int.reduceLE, Int.reduceNeg, Int.reduceEq]; with_reducible refine hKr _ ?_; clear hKr Kr)
    (refine endsV (x := _) (σ' := _) (by simp only [retOf, retVals, oneOrTup, callArgs, callArgsL, evAll, ev, lk, shutAll, shut, nrm, nrm0, nrm1, upd, ↓reduceIte, Nat.reduceEqDiff, List.map_nil, List.map_cons, eq_self, if_true, if_false, reduceCtorEq, and_self, ownRes]; rfl) ?_)
    rfl
  · have hg : (decide (k < 0) || decide ((bs.length : Int) < k)) = true := by simp; omega
    (refine wpc_true (by simp only [ev, lk, Nat.reduceEqDiff, ↓reduceIte, decide_true, decide_false, Bool.not_true, Bool.not_false, Bool.true_and, Bool.false_and, Bool.and_true, Bool.and_false, Bool.or_false, Bool.false_or, Bool.true_or, Bool.or_true, Bool.and_self, Bool.or_self, Int.cast_ofNat_Int, Int.natCast_inj, Int.ofNat_lt, Int.ofNat_le, Int.natCast_nonneg, eq_self, Int.reduceLT, Int.reduceLE, Int.reduceEq, Bool.false_eq_true, if_true, if_false, reduceCtorEq, and_self, and_true, true_and, and_false, false_and, hg]) ?_)
    have e0 : gtAt bs k = (0, 0, 0, 18) := by unfold gtAt; rw [gvAt_out hp]; rfl
    (refine wpc_seq ?_); (refine wpc_region fun Kr hKr => ?_; simp only [go_sem, ↓reduceIte, Nat.reduceEqDiff, Nat.reduceAdd, Nat.reduceSub, Nat.reduceLeDiff, Nat.reduceMul, reduceCtorEq, Nat.reduceBEq, Int.reduceLT, Int.reduceLE, Int.reduceNeg, Int.reduceEq, e0]; with_reducible refine hKr _ ?_; clear hKr Kr)
    (refine endsV (x := _) (σ' := _) (by simp only [retOf, retVals, oneOrTup, callArgs, callArgsL, evAll, ev, lk, shutAll, shut, nrm, nrm0, nrm1, upd, ↓reduceIte, Nat.reduceEqDiff, List.map_nil, List.map_cons, eq_self, if_true, if_false, reduceCtorEq, and_self, ownRes]; rfl) ?_)
    rfl
end Go.Proofs.Ytfmeedphpcjkmaa.Ag
