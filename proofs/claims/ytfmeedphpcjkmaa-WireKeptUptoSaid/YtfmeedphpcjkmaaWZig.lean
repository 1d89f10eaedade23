/- The walk over ZigZag, ZagZig. -/
import Derived.Test.YtfmeedphpcjkmaaWLen
-- sem
set_option linter.unusedVariables false
set_option linter.unusedSimpArgs false
namespace Go.Proofs.Ytfmeedphpcjkmaa.Ag
attribute [local go_sem] runTo_nil runTo_n runTo_g conT_some conT_none conB_true conB_false conG_bool runI_nil runI_n runI_g conTI_some conTI_none conBI_some conBI_none conGI_bool runD_nil runD_n runD_g conDB_some conDB_none conDF_some conDF_none conD_true conD_false conDW_true conDW_false conDG_bool gρ openV pickB opds aop ev evOpt evAll callArgs callArgsL ownRes shutAll shut nrm nrm0 nrm1 St.put lk upd nxt bin2 un1 intOp lenOf isStr isBoolIV notNil IV.cells fldA fldV partIV partTV loadOf storeOf cellsOf TV.cells? mkAgg ivsOf splice fillTV dstOf dstOf0 srcOf srcOf0 unIf isNilS condP retOf retVals oneOrTup thenC blockC List.map_cons List.map_nil List.length_cons List.length_nil List.length_map Option.map_some Bool.not_true Bool.not_false Bool.true_and Bool.false_and Bool.and_true Bool.and_false Bool.false_eq_true if_true if_false decide_true decide_false List.contains_nil List.contains_cons eq_self Int.toNat_natCast Option.getD_some Option.getD_none and_true true_and List.getElem?_cons_zero List.getElem?_cons_succ List.drop_zero List.drop_succ_cons List.take_succ_cons List.take_zero List.nil_append List.cons_append wpr_nil wprd_nil Int.natCast_nonneg Int.natCast_inj Int.ofNat_lt Int.ofNat_le Bool.cond_false_right Bool.cond_true_left Bool.cond_false_left Bool.cond_true_right cond_true cond_false beq_true beq_false Bool.not_eq_true beq_self_eq_true oneSize Nat.mul_one List.length_append Int.toNat_zero List.replicate_zero Int.cast_ofNat_Int Int.mul_one Bool.or_false Bool.false_or Bool.true_or Bool.or_true Bool.and_self Bool.or_self
attribute [-go_sem] IntKind.bits

def zz (n : Int) : Int := if 0 ≤ n then 2 * n else -2 * n - 1
def zag (u : Int) : Int := if u % 2 = 0 then u / 2 else -(u / 2) - 1

theorem u64_mod (n : Int) : IntKind.u64.wrap n = n % 18446744073709551616 := by
  simp [IntKind.wrap, IntKind.bits, IntKind.signed]

theorem xor_zero {k : IntKind} (x : Int) : bitOp .xor k x 0 = k.wrap (BitVec.ofInt k.bits x).toNat := by
  unfold bitOp
  simp only [show BitVec.ofInt k.bits 0 = 0#_ by simp, BitVec.xor_zero]
theorem xor_ones {k : IntKind} (x y : Int) (hy : BitVec.ofInt k.bits y = BitVec.allOnes k.bits) : bitOp .xor k x y = k.wrap ((2 ^ k.bits - 1 - (BitVec.ofInt k.bits x).toNat : Nat)) := by
  unfold bitOp
  simp only [hy, BitVec.xor_allOnes, BitVec.toNat_not]
theorem and_one (u : Nat) (hu : u < 18446744073709551616) : bitOp .and .u64 (u : Int) 1 = ((u % 2 : Nat) : Int) := by
  unfold bitOp
  have h1 : (BitVec.ofInt IntKind.u64.bits (u : Int) &&& BitVec.ofInt IntKind.u64.bits 1).toNat = u % 2 := by
    rw [BitVec.toNat_and, u64_bits, ofInt_nat u (show u < 2 ^ 64 by omega), show ((1 : Int)) = ((1 : Nat) : Int) by rfl, ofInt_nat 1 (by decide)]
    exact Nat.and_one_is_mod u
  simp only [h1]
  exact wrap_u64 (by omega) (by omega)
theorem ofInt_toNat64 (x : Int) : ((BitVec.ofInt 64 x).toNat : Int) = x % 18446744073709551616 := by
  rw [BitVec.toNat_ofInt]; omega

theorem zigzag_fc (n : Int) (h0 : -9223372036854775808 ≤ n) (h1 : n < 9223372036854775808) : FC Try.prog i_wire_ZigZag [.int .i64 n] (· = .int .u64 (zz n)) := by
  (refine .of F_wire_ZigZag T_wire_ZigZag L_wire_ZigZag ?_; unfold A_wire_ZigZag; simp only [args0, List.map_cons, List.map_nil, List.zipIdx_cons, List.zipIdx_nil])
  (refine wpc_seq ?_); (refine wpc_region fun Kr hKr => ?_; simp only [go_sem, ↓reduceIte, Nat.reduceEqDiff, Nat.reduceAdd, Nat.reduceSub, Nat.reduceLeDiff, Nat.reduceMul, reduceCtorEq, Nat.reduceBEq, Int.reduceLT, Int.reduceLE, Int.reduceNeg, Int.reduceEq]; with_reducible refine hKr _ ?_; clear hKr Kr)
  have g : ¬ ((1 : Int) < 0) := by omega
  have g2 : ¬ ((63 : Int) < 0) := by omega
  have key : bitOp .xor .u64 (IntKind.u64.wrap (IntKind.u64.wrap n * 2 ^ (min ((1 : Int).toNat) IntKind.u64.bits))) (IntKind.u64.wrap (Int.fdiv n (2 ^ (min ((63 : Int).toNat) IntKind.i64.bits)))) = zz n := by
    have e1 : ((2 : Int) ^ (min ((1 : Int).toNat) IntKind.u64.bits)) = 2 := by decide
    have e2 : ((2 : Int) ^ (min ((63 : Int).toNat) IntKind.i64.bits)) = 9223372036854775808 := by decide
    rw [e1, e2, Int.fdiv_eq_ediv_of_nonneg _ (by omega)]
    unfold zz
    by_cases h : 0 ≤ n
    · rw [if_pos h, show n / 9223372036854775808 = 0 by omega, show IntKind.u64.wrap 0 = 0 by decide, xor_zero, u64_bits, ofInt_toNat64, wrap_u64 (n := n) (by omega) (by omega), wrap_u64 (n := n * 2) (by omega) (by omega), wrap_u64 (by omega) (by omega)]
      omega
    · rw [if_neg h, show n / 9223372036854775808 = -1 by omega, show IntKind.u64.wrap (-1) = 18446744073709551615 by decide, xor_ones _ _ (by decide)]
      have e3 : IntKind.u64.wrap n = n + 18446744073709551616 := by rw [u64_mod]; omega
      have e4 : IntKind.u64.wrap ((n + 18446744073709551616) * 2) = 2 * n + 18446744073709551616 := by rw [u64_mod]; omega
      rw [e3, e4]
      have e5 := ofInt_toNat64 (2 * n + 18446744073709551616)
      rw [u64_bits, wrap_u64 (by omega) (by omega)]
      have : (2 : Nat) ^ 64 = 18446744073709551616 := by decide
      rw [this]
      omega
  (refine wpc_seq ?_); (refine wpc_region fun Kr hKr => ?_; simp only [go_sem, ↓reduceIte, Nat.reduceEqDiff, Nat.reduceAdd, Nat.reduceSub, Nat.reduceLeDiff, Nat.reduceMul, reduceCtorEq, Nat.reduceBEq, Int.reduceLT, Int.reduceLE, Int.reduceNeg, Int.reduceEq, shfOp, g, g2, key]; with_reducible refine hKr _ ?_; clear hKr Kr)
  (refine endsV (x := _) (σ' := _) (by simp only [retOf, retVals, oneOrTup, callArgs, callArgsL, evAll, ev, lk, shutAll, shut, nrm, nrm0, nrm1, upd, ↓reduceIte, Nat.reduceEqDiff, List.map_nil, List.map_cons, eq_self, if_true, if_false, reduceCtorEq, and_self, ownRes]; rfl) ?_)
  rfl

theorem ref_zigzag_fc (n : Int) (h0 : -9223372036854775808 ≤ n) (h1 : n < 9223372036854775808) : FC Try.prog i_cartoucheref1_ZigZag [.int .i64 n] (· = .int .u64 (zz n)) := by
  (refine .of F_cartoucheref1_ZigZag T_cartoucheref1_ZigZag L_cartoucheref1_ZigZag ?_; unfold A_cartoucheref1_ZigZag; simp only [args0, List.map_cons, List.map_nil, List.zipIdx_cons, List.zipIdx_nil])
  (refine wpc_seq ?_); (refine wpc_region fun Kr hKr => ?_; simp only [go_sem, ↓reduceIte, Nat.reduceEqDiff, Nat.reduceAdd, Nat.reduceSub, Nat.reduceLeDiff, Nat.reduceMul, reduceCtorEq, Nat.reduceBEq, Int.reduceLT, Int.reduceLE, Int.reduceNeg, Int.reduceEq]; with_reducible refine hKr _ ?_; clear hKr Kr)
  (refine wpc_seq ?_); (refine wpc_seq ?_); (refine wpc_region fun Kr hKr => ?_; simp only [go_sem, ↓reduceIte, Nat.reduceEqDiff, Nat.reduceAdd, Nat.reduceSub, Nat.reduceLeDiff, Nat.reduceMul, reduceCtorEq, Nat.reduceBEq, Int.reduceLT, Int.reduceLE, Int.reduceNeg, Int.reduceEq]; with_reducible refine hKr _ ?_; clear hKr Kr)
  unfold zz
  by_cases h : 0 ≤ n
  · (refine wpc_true (by simp only [ev, lk, Nat.reduceEqDiff, ↓reduceIte, decide_true, decide_false, Bool.not_true, Bool.not_false, Bool.true_and, Bool.false_and, Bool.and_true, Bool.and_false, Bool.or_false, Bool.false_or, Bool.true_or, Bool.or_true, Bool.and_self, Bool.or_self, Int.cast_ofNat_Int, Int.natCast_inj, Int.ofNat_lt, Int.ofNat_le, Int.natCast_nonneg, eq_self, Int.reduceLT, Int.reduceLE, Int.reduceEq, Bool.false_eq_true, if_true, if_false, reduceCtorEq, and_self, and_true, true_and, and_false, false_and, h]) ?_)
    have e1 : IntKind.u64.wrap (IntKind.u64.wrap n * 2) = 2 * n := by rw [wrap_u64 (n := n) (by omega) (by omega), wrap_u64 (by omega) (by omega)]; omega
    (refine wpc_seq ?_); (refine wpc_region fun Kr hKr => ?_; simp only [go_sem, ↓reduceIte, Nat.reduceEqDiff, Nat.reduceAdd, Nat.reduceSub, Nat.reduceLeDiff, Nat.reduceMul, reduceCtorEq, Nat.reduceBEq, Int.reduceLT, Int.reduceLE, Int.reduceNeg, Int.reduceEq, e1]; with_reducible refine hKr _ ?_; clear hKr Kr)
    (refine endsV (x := _) (σ' := _) (by simp only [retOf, retVals, oneOrTup, callArgs, callArgsL, evAll, ev, lk, shutAll, shut, nrm, nrm0, nrm1, upd, ↓reduceIte, Nat.reduceEqDiff, List.map_nil, List.map_cons, eq_self, if_true, if_false, reduceCtorEq, and_self, ownRes]; rfl) ?_)
    rw [if_pos h]
  · (refine wpc_false (by simp only [ev, lk, Nat.reduceEqDiff, ↓reduceIte, decide_true, decide_false, Bool.not_true, Bool.not_false, Bool.true_and, Bool.false_and, Bool.and_true, Bool.and_false, Bool.or_false, Bool.false_or, Bool.true_or, Bool.or_true, Bool.and_self, Bool.or_self, Int.cast_ofNat_Int, Int.natCast_inj, Int.ofNat_lt, Int.ofNat_le, Int.natCast_nonneg, eq_self, Int.reduceLT, Int.reduceLE, Int.reduceEq, Bool.false_eq_true, if_true, if_false, reduceCtorEq, and_self, and_true, true_and, and_false, false_and, h]) ?_)
    (refine wpc_skip' ?_)
    have e1 : IntKind.u64.wrap (IntKind.u64.wrap (IntKind.u64.wrap (IntKind.i64.wrap (0 - IntKind.i64.wrap (n + 1)))  * 2) + 1) = -2 * n - 1 := by
      rw [wrap_i64 (n := n + 1) (by omega) (by omega), wrap_i64 (by omega) (by omega), wrap_u64 (n := 0 - (n + 1)) (by omega) (by omega), wrap_u64 (n := (0 - (n + 1)) * 2) (by omega) (by omega), wrap_u64 (by omega) (by omega)]; omega
    (refine wpc_seq ?_); (refine wpc_region fun Kr hKr => ?_; simp only [go_sem, ↓reduceIte, Nat.reduceEqDiff, Nat.reduceAdd, Nat.reduceSub, Nat.reduceLeDiff, Nat.reduceMul, reduceCtorEq, Nat.reduceBEq, Int.reduceLT, Int.reduceLE, Int.reduceNeg, Int.reduceEq, e1]; with_reducible refine hKr _ ?_; clear hKr Kr)
    (refine endsV (x := _) (σ' := _) (by simp only [retOf, retVals, oneOrTup, callArgs, callArgsL, evAll, ev, lk, shutAll, shut, nrm, nrm0, nrm1, upd, ↓reduceIte, Nat.reduceEqDiff, List.map_nil, List.map_cons, eq_self, if_true, if_false, reduceCtorEq, and_self, ownRes]; rfl) ?_)
    rw [if_neg h]

theorem zagzig_fc (u : Nat) (hu : u < 18446744073709551616) : FC Try.prog i_wire_ZagZig [.int .u64 (u : Int)] (· = .int .i64 (zag u)) := by
  (refine .of F_wire_ZagZig T_wire_ZagZig L_wire_ZagZig ?_; unfold A_wire_ZagZig; simp only [args0, List.map_cons, List.map_nil, List.zipIdx_cons, List.zipIdx_nil])
  (refine wpc_seq ?_); (refine wpc_region fun Kr hKr => ?_; simp only [go_sem, ↓reduceIte, Nat.reduceEqDiff, Nat.reduceAdd, Nat.reduceSub, Nat.reduceLeDiff, Nat.reduceMul, reduceCtorEq, Nat.reduceBEq, Int.reduceLT, Int.reduceLE, Int.reduceNeg, Int.reduceEq]; with_reducible refine hKr _ ?_; clear hKr Kr)
  have g : ¬ ((1 : Int) < 0) := by omega
  have hs : Int.fdiv (u : Int) (2 ^ (min ((1 : Int).toNat) IntKind.u64.bits)) = ((u / 2 ^ 1 : Nat) : Int) := shrK u 1 (by omega)
  have ha := and_one u hu
  have key : bitOp .xor .i64 (IntKind.i64.wrap ((u / 2 ^ 1 : Nat) : Int)) (IntKind.i64.wrap (0 - IntKind.i64.wrap ((u % 2 : Nat) : Int))) = zag u := by
    have e0 : u / 2 ^ 1 = u / 2 := by simp
    rw [e0, wrap_i64 (n := ((u / 2 : Nat) : Int)) (by omega) (by omega), wrap_i64 (n := ((u % 2 : Nat) : Int)) (by omega) (by omega), wrap_i64 (n := 0 - ((u % 2 : Nat) : Int)) (by omega) (by omega)]
    unfold zag
    have e5 := ofInt_toNat64 ((u / 2 : Nat) : Int)
    by_cases h : u % 2 = 0
    · rw [if_pos (by omega), h, show (0 : Int) - ((0 : Nat) : Int) = 0 by rfl, xor_zero, show IntKind.i64.bits = 64 by rfl, e5, wrap_i64 (by omega) (by omega)]
      omega
    · have h' : u % 2 = 1 := by omega
      rw [if_neg (by omega), h', show (0 : Int) - ((1 : Nat) : Int) = -1 by rfl, xor_ones _ _ (by decide), show IntKind.i64.bits = 64 by rfl]
      have : (2 : Nat) ^ 64 = 18446744073709551616 := by decide
      rw [this, IntKind.wrap_i64]
      omega
  (refine wpc_seq ?_); (refine wpc_region fun Kr hKr => ?_; simp only [go_sem, ↓reduceIte, Nat.reduceEqDiff, Nat.reduceAdd, Nat.reduceSub, Nat.reduceLeDiff, Nat.reduceMul, reduceCtorEq, Nat.reduceBEq, Int.reduceLT, Int.reduceLE, Int.reduceNeg, Int.reduceEq, shfOp, g, hs, ha, key]; with_reducible refine hKr _ ?_; clear hKr Kr)
  (refine endsV (x := _) (σ' := _) (by simp only [retOf, retVals, oneOrTup, callArgs, callArgsL, evAll, ev, lk, shutAll, shut, nrm, nrm0, nrm1, upd, ↓reduceIte, Nat.reduceEqDiff, List.map_nil, List.map_cons, eq_self, if_true, if_false, reduceCtorEq, and_self, ownRes]; rfl) ?_)
  rfl

theorem ref_zagzig_fc (u : Nat) (hu : u < 18446744073709551616) : FC Try.prog i_cartoucheref1_ZagZig [.int .u64 (u : Int)] (· = .int .i64 (zag u)) := by
  (refine .of F_cartoucheref1_ZagZig T_cartoucheref1_ZagZig L_cartoucheref1_ZagZig ?_; unfold A_cartoucheref1_ZagZig; simp only [args0, List.map_cons, List.map_nil, List.zipIdx_cons, List.zipIdx_nil])
  (refine wpc_seq ?_); (refine wpc_region fun Kr hKr => ?_; simp only [go_sem, ↓reduceIte, Nat.reduceEqDiff, Nat.reduceAdd, Nat.reduceSub, Nat.reduceLeDiff, Nat.reduceMul, reduceCtorEq, Nat.reduceBEq, Int.reduceLT, Int.reduceLE, Int.reduceNeg, Int.reduceEq]; with_reducible refine hKr _ ?_; clear hKr Kr)
  (refine wpc_seq ?_); (refine wpc_seq ?_)
  have e1 : Int.tmod (u : Int) 2 = (u : Int) % 2 := IntWalk.rem_in _ _ (by omega)
  have e2 : IntKind.u64.wrap (Int.tdiv (u : Int) 2) = (u : Int) / 2 := IntWalk.u64_quo _ _ ⟨by omega, by omega, by omega⟩
  have e3 : IntKind.i64.wrap ((u : Int) / 2) = (u : Int) / 2 := wrap_i64 (by omega) (by omega)
  (refine wpc_region fun Kr hKr => ?_; simp only [go_sem, ↓reduceIte, Nat.reduceEqDiff, Nat.reduceAdd, Nat.reduceSub, Nat.reduceLeDiff, Nat.reduceMul, reduceCtorEq, Nat.reduceBEq, Int.reduceLT, Int.reduceLE, Int.reduceNeg, Int.reduceEq, e1]; with_reducible refine hKr _ ?_; clear hKr Kr)
  unfold zag
  by_cases h : (u : Int) % 2 = 0
  · (refine wpc_true (by simp only [ev, lk, Nat.reduceEqDiff, ↓reduceIte, decide_true, decide_false, Bool.not_true, Bool.not_false, Bool.true_and, Bool.false_and, Bool.and_true, Bool.and_false, Bool.or_false, Bool.false_or, Bool.true_or, Bool.or_true, Bool.and_self, Bool.or_self, Int.cast_ofNat_Int, Int.natCast_inj, Int.ofNat_lt, Int.ofNat_le, Int.natCast_nonneg, eq_self, Int.reduceLT, Int.reduceLE, Int.reduceEq, Bool.false_eq_true, if_true, if_false, reduceCtorEq, and_self, and_true, true_and, and_false, false_and, h]) ?_)
    (refine wpc_seq ?_); (refine wpc_region fun Kr hKr => ?_; simp only [go_sem, ↓reduceIte, Nat.reduceEqDiff, Nat.reduceAdd, Nat.reduceSub, Nat.reduceLeDiff, Nat.reduceMul, reduceCtorEq, Nat.reduceBEq, Int.reduceLT, Int.reduceLE, Int.reduceNeg, Int.reduceEq, e2, e3]; with_reducible refine hKr _ ?_; clear hKr Kr)
    (refine endsV (x := _) (σ' := _) (by simp only [retOf, retVals, oneOrTup, callArgs, callArgsL, evAll, ev, lk, shutAll, shut, nrm, nrm0, nrm1, upd, ↓reduceIte, Nat.reduceEqDiff, List.map_nil, List.map_cons, eq_self, if_true, if_false, reduceCtorEq, and_self, ownRes]; rfl) ?_)
    rw [if_pos h]
  · (refine wpc_false (by simp only [ev, lk, Nat.reduceEqDiff, ↓reduceIte, decide_true, decide_false, Bool.not_true, Bool.not_false, Bool.true_and, Bool.false_and, Bool.and_true, Bool.and_false, Bool.or_false, Bool.false_or, Bool.true_or, Bool.or_true, Bool.and_self, Bool.or_self, Int.cast_ofNat_Int, Int.natCast_inj, Int.ofNat_lt, Int.ofNat_le, Int.natCast_nonneg, eq_self, Int.reduceLT, Int.reduceLE, Int.reduceEq, Bool.false_eq_true, if_true, if_false, reduceCtorEq, and_self, and_true, true_and, and_false, false_and, h]) ?_)
    (refine wpc_skip' ?_)
    have e4 : IntKind.i64.wrap (IntKind.i64.wrap (0 - (u : Int) / 2) - 1) = -((u : Int) / 2) - 1 := by rw [wrap_i64 (n := 0 - (u : Int) / 2) (by omega) (by omega), wrap_i64 (by omega) (by omega)]; omega
    (refine wpc_seq ?_); (refine wpc_region fun Kr hKr => ?_; simp only [go_sem, ↓reduceIte, Nat.reduceEqDiff, Nat.reduceAdd, Nat.reduceSub, Nat.reduceLeDiff, Nat.reduceMul, reduceCtorEq, Nat.reduceBEq, Int.reduceLT, Int.reduceLE, Int.reduceNeg, Int.reduceEq, e2, e3, e4]; with_reducible refine hKr _ ?_; clear hKr Kr)
    (refine endsV (x := _) (σ' := _) (by simp only [retOf, retVals, oneOrTup, callArgs, callArgsL, evAll, ev, lk, shutAll, shut, nrm, nrm0, nrm1, upd, ↓reduceIte, Nat.reduceEqDiff, List.map_nil, List.map_cons, eq_self, if_true, if_false, reduceCtorEq, and_self, ownRes]; rfl) ?_)
    rw [if_neg h]
end Go.Proofs.Ytfmeedphpcjkmaa.Ag
