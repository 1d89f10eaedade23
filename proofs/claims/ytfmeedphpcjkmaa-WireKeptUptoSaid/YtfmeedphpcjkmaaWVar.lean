/- The walk over PutVarint, same, the other GetVarint, awake. -/
import Derived.Test.YtfmeedphpcjkmaaWZig
import Derived.Lib.Strings
-- sem
set_option linter.unusedVariables false
set_option linter.unusedSimpArgs false
namespace Go.Proofs.Ytfmeedphpcjkmaa.Ag
attribute [local go_sem] runTo_nil runTo_n runTo_g conT_some conT_none conB_true conB_false conG_bool runI_nil runI_n runI_g conTI_some conTI_none conBI_some conBI_none conGI_bool runD_nil runD_n runD_g conDB_some conDB_none conDF_some conDF_none conD_true conD_false conDW_true conDW_false conDG_bool gρ openV pickB opds aop ev evOpt evAll callArgs callArgsL ownRes shutAll shut nrm nrm0 nrm1 St.put lk upd nxt bin2 un1 intOp lenOf isStr isBoolIV notNil IV.cells fldA fldV partIV partTV loadOf storeOf cellsOf TV.cells? mkAgg ivsOf splice fillTV dstOf dstOf0 srcOf srcOf0 unIf isNilS condP retOf retVals oneOrTup thenC blockC List.map_cons List.map_nil List.length_cons List.length_nil List.length_map Option.map_some Bool.not_true Bool.not_false Bool.true_and Bool.false_and Bool.and_true Bool.and_false Bool.false_eq_true if_true if_false decide_true decide_false List.contains_nil List.contains_cons eq_self Int.toNat_natCast Option.getD_some Option.getD_none and_true true_and List.getElem?_cons_zero List.getElem?_cons_succ List.drop_zero List.drop_succ_cons List.take_succ_cons List.take_zero List.nil_append List.cons_append wpr_nil wprd_nil Int.natCast_nonneg Int.natCast_inj Int.ofNat_lt Int.ofNat_le Bool.cond_false_right Bool.cond_true_left Bool.cond_false_left Bool.cond_true_right cond_true cond_false beq_true beq_false Bool.not_eq_true beq_self_eq_true oneSize Nat.mul_one List.length_append Int.toNat_zero List.replicate_zero Int.cast_ofNat_Int Int.mul_one Bool.or_false Bool.false_or Bool.true_or Bool.or_true Bool.and_self Bool.or_self
attribute [-go_sem] IntKind.bits

theorem mk_toList (bs : List UInt8) : (ByteArray.mk bs.toArray).toList = bs := by rw [Lib.toList_data]

theorem same_fc (xs ys : List UInt8) : FC Try.prog i_cartouchelaw1_same [.slice (xs.map encB), .slice (ys.map encB)] (· = .bool (decide (xs = ys))) := by
  (refine .of F_cartouchelaw1_same T_cartouchelaw1_same L_cartouchelaw1_same ?_; unfold A_cartouchelaw1_same; simp only [args0, List.map_cons, List.map_nil, List.zipIdx_cons, List.zipIdx_nil])
  (refine wpc_seq ?_); (refine wpc_region fun Kr hKr => ?_; simp only [go_sem, ↓reduceIte, Nat.reduceEqDiff, Nat.reduceAdd, Nat.reduceSub, Nat.reduceLeDiff, Nat.reduceMul, reduceCtorEq, Nat.reduceBEq, Int.reduceLT, Int.reduceLE, Int.reduceNeg, Int.reduceEq]; with_reducible refine hKr _ ?_; clear hKr Kr)
  have hx := unB_enc xs
  have hy := unB_enc ys
  (refine wpc_seq ?_); (refine wpc_region fun Kr hKr => ?_; simp only [go_sem, ↓reduceIte, Nat.reduceEqDiff, Nat.reduceAdd, Nat.reduceSub, Nat.reduceLeDiff, Nat.reduceMul, reduceCtorEq, Nat.reduceBEq, Int.reduceLT, Int.reduceLE, Int.reduceNeg, Int.reduceEq, hx, hy, strOp, mk_toList]; with_reducible refine hKr _ ?_; clear hKr Kr)
  (refine endsV (x := _) (σ' := _) (by simp only [retOf, retVals, oneOrTup, callArgs, callArgsL, evAll, ev, lk, shutAll, shut, nrm, nrm0, nrm1, upd, ↓reduceIte, Nat.reduceEqDiff, List.map_nil, List.map_cons, eq_self, if_true, if_false, reduceCtorEq, and_self, ownRes]; rfl) ?_)
  congr 1
  by_cases h : xs = ys <;> simp [h]

theorem putVarint_oc (n : Nat) (hn : n < 18446744073709551616) : OC Try.prog i_wire_PutVarint [.int .u64 (n : Int)] 5 1 ((pvL n).map encB) [] := by
  (refine OC.of F_wire_PutVarint T_wire_PutVarint L_wire_PutVarint ?_; unfold A_wire_PutVarint; simp only [args0, List.map_cons, List.map_nil, List.zipIdx_cons, List.zipIdx_nil])
  (refine wpc_seq ?_); (refine wpc_region fun Kr hKr => ?_; simp only [go_sem, ↓reduceIte, Nat.reduceEqDiff, Nat.reduceAdd, Nat.reduceSub, Nat.reduceLeDiff, Nat.reduceMul, reduceCtorEq, Nat.reduceBEq, Int.reduceLT, Int.reduceLE, Int.reduceNeg, Int.reduceEq]; with_reducible refine hKr _ ?_; clear hKr Kr)
  have hl := pvL_len10 hn
  have h0 : (0 : Int) ≤ ((pvL n).length : Int) := by omega
  have h1 : ((pvL n).length : Int) ≤ 140737488355328 := by omega
  (refine wpc_seq ?_); (refine wpc_region fun Kr hKr => ?_; simp only [go_sem, ↓reduceIte, Nat.reduceEqDiff, Nat.reduceAdd, Nat.reduceSub, Nat.reduceLeDiff, Nat.reduceMul, reduceCtorEq, Nat.reduceBEq, Int.reduceLT, Int.reduceLE, Int.reduceNeg, Int.reduceEq])
  (refine wpr_callE (size_fc n hn) (σ' := _) (by simp only [callArgs, callArgsL, evAll, ev, lk, shutAll, shut, nrm, nrm0, nrm1, upd, ↓reduceIte, Nat.reduceEqDiff, List.map_nil, List.map_cons, eq_self, if_true, if_false, reduceCtorEq, and_self, ownRes, h0, h1]; rfl) ?_; simp only [go_sem, ↓reduceIte, Nat.reduceEqDiff, Nat.reduceAdd, Nat.reduceSub, Nat.reduceLeDiff, Nat.reduceMul, reduceCtorEq, Nat.reduceBEq, Int.reduceLT, Int.reduceLE, Int.reduceNeg, Int.reduceEq, h0, h1])
  (refine wpr_callL (varint_lc 5 rfl [] n hn (by simp)) (by simp only [callArgs, callArgsL, evAll, ev, lk, shutAll, shut, nrm, nrm0, nrm1, upd, ↓reduceIte, Nat.reduceEqDiff, List.map_nil, List.map_cons, eq_self, if_true, if_false, reduceCtorEq, and_self, ownRes]; rfl) ?_; simp only [go_sem, ↓reduceIte, Nat.reduceEqDiff, Nat.reduceAdd, Nat.reduceSub, Nat.reduceLeDiff, Nat.reduceMul, reduceCtorEq, Nat.reduceBEq, Int.reduceLT, Int.reduceLE, Int.reduceNeg, Int.reduceEq])
  (with_reducible refine hKr _ ?_; clear hKr Kr)
  (simp only [thenC, wpc_ret]; refine endsO (by simp only [retOf, retVals, oneOrTup, callArgs, callArgsL, evAll, ev, lk, shutAll, shut, nrm, nrm0, nrm1, upd, ↓reduceIte, Nat.reduceEqDiff, List.map_nil, List.map_cons, eq_self, if_true, if_false, reduceCtorEq, and_self, ownRes]; rfl) ?_)
  rfl
theorem putVarint_fc (n : Nat) (hn : n < 18446744073709551616) : FC Try.prog i_wire_PutVarint [.int .u64 (n : Int)] (· = .slice ((pvL n).map encB)) := (putVarint_oc n hn).fc

theorem ref_putVarint_oc (n : Nat) (hn : n < 18446744073709551616) : OC Try.prog i_cartoucheref1_PutVarint [.int .u64 (n : Int)] 5 1 ((pvL n).map encB) [] := by
  (refine OC.of F_cartoucheref1_PutVarint T_cartoucheref1_PutVarint L_cartoucheref1_PutVarint ?_; unfold A_cartoucheref1_PutVarint; simp only [args0, List.map_cons, List.map_nil, List.zipIdx_cons, List.zipIdx_nil])
  (refine wpc_seq ?_); (refine wpc_region fun Kr hKr => ?_; simp only [go_sem, ↓reduceIte, Nat.reduceEqDiff, Nat.reduceAdd, Nat.reduceSub, Nat.reduceLeDiff, Nat.reduceMul, reduceCtorEq, Nat.reduceBEq, Int.reduceLT, Int.reduceLE, Int.reduceNeg, Int.reduceEq]; with_reducible refine hKr _ ?_; clear hKr Kr)
  (refine wpc_seq ?_); (refine wpc_region fun Kr hKr => ?_; simp only [go_sem, ↓reduceIte, Nat.reduceEqDiff, Nat.reduceAdd, Nat.reduceSub, Nat.reduceLeDiff, Nat.reduceMul, reduceCtorEq, Nat.reduceBEq, Int.reduceLT, Int.reduceLE, Int.reduceNeg, Int.reduceEq]; with_reducible refine hKr _ ?_; clear hKr Kr)
  (refine wpc_seq ?_)
  show wpc _ (.block 0 (.loop _)) _ _
  refine wpc_loop (fun m s => ∃ (ys : List UInt8), ys.length + (pvL m).length ≤ 10 ∧ m < 18446744073709551616 ∧ ys ++ pvL m = pvL n ∧
      ((ys = [] ∧ s.σ = [] ∧ lk s.ρ 3 = some (.iv .nil)) ∨ ∃ v, s.σ = [(0, v, .list 5 1 (ys.map encB))] ∧ lk s.ρ 3 = some (.lst 0 v)) ∧ lk s.ρ 0 = some (.iv (.int .u64 (m : Int)))) n
    ⟨[], by have := pvL_len10 hn; simpa using this, hn, by simp, .inl ⟨rfl, rfl, ?_⟩, ?_⟩ ?_
  · simp only [go_sem, ↓reduceIte, Nat.reduceEqDiff, Nat.reduceAdd, Nat.reduceSub, Nat.reduceLeDiff, Nat.reduceMul, reduceCtorEq, Nat.reduceBEq, Int.reduceLT, Int.reduceLE, Int.reduceNeg, Int.reduceEq]
  · simp only [go_sem, ↓reduceIte, Nat.reduceEqDiff, Nat.reduceAdd, Nat.reduceSub, Nat.reduceLeDiff, Nat.reduceMul, reduceCtorEq, Nat.reduceBEq, Int.reduceLT, Int.reduceLE, Int.reduceNeg, Int.reduceEq]
  rintro m s ⟨ys, hl, hm, hy, hsl, h0⟩ K hK
  obtain ⟨ρ, σ⟩ := s
  simp only at hsl h0
  (refine wpc_seq ?_); (refine wpc_seq ?_); (refine wpc_region fun Kr hKr => ?_; simp only [go_sem, ↓reduceIte, Nat.reduceEqDiff, Nat.reduceAdd, Nat.reduceSub, Nat.reduceLeDiff, Nat.reduceMul, reduceCtorEq, Nat.reduceBEq, Int.reduceLT, Int.reduceLE, Int.reduceNeg, Int.reduceEq, h0]; with_reducible refine hKr _ ?_; clear hKr Kr)
  have e128 : ((128 : Int) ≤ (m : Int)) ↔ 128 ≤ m := by omega
  have hlen : ys.length + 1 ≤ 140737488355328 := by
    have := pvL_pos m
    omega
  by_cases hb : 128 ≤ m
  · (refine wpc_true (by simp only [ev, lk, Nat.reduceEqDiff, ↓reduceIte, decide_true, decide_false, Bool.not_true, Bool.not_false, Bool.true_and, Bool.false_and, Bool.and_true, Bool.and_false, Bool.or_false, Bool.false_or, Bool.true_or, Bool.or_true, Bool.and_self, Bool.or_self, Int.cast_ofNat_Int, Int.natCast_inj, Int.ofNat_lt, Int.ofNat_le, Int.natCast_nonneg, eq_self, Int.reduceLT, Int.reduceLE, Int.reduceEq, Bool.false_eq_true, if_true, if_false, reduceCtorEq, and_self, and_true, true_and, and_false, false_and, e128, hb]) ?_)
    (refine wpc_skip' ?_)
    (refine wpc_seq ?_)
    have e1 : Int.tmod (m : Int) 128 = ((m % 128 : Nat) : Int) := by rw [IntWalk.rem_in _ _ (by omega)]; omega
    have e2 : IntKind.u8.wrap ((m % 128 : Nat) : Int) = ((m % 128 : Nat) : Int) := wrap_u8 (by omega) (by omega)
    have e3 : IntKind.u8.wrap (((m % 128 : Nat) : Int) + 128) = ((m % 128 + 128 : Nat) : Int) := by rw [wrap_u8 (by omega) (by omega)]; omega
    have e4 : IntKind.u64.wrap (Int.tdiv (m : Int) 128) = ((m / 128 : Nat) : Int) := by rw [IntWalk.u64_quo _ _ ⟨by omega, by omega, by omega⟩]; omega
    rw [pvL_big hb] at hl hy
    simp only [List.length_cons] at hl
    have fin : ∀ v ρ', lk ρ' 3 = some (.lst 0 v) → lk ρ' 0 = some (.iv (.int .u64 ((m / 128 : Nat) : Int))) → K { ρ := ρ', σ := [(0, v, .list 5 1 (ys.map encB ++ [.int .u8 ((m % 128 + 128 : Nat) : Int)]))] } := by
      intro v ρ' g3 g0
      refine hK _ (m / 128) (by omega) ⟨ys ++ [UInt8.ofNat (m % 128 + 128)], by simp only [List.length_append, List.length_cons, List.length_nil]; omega, by omega, by rw [List.append_assoc]; exact hy, .inr ⟨v, ?_, g3⟩, g0⟩
      simp only [List.map_append, encB_ofNat (show m % 128 + 128 < 256 by omega), List.map_cons, List.map_nil]
    rcases hsl with ⟨rfl, rfl, h3⟩ | ⟨v, rfl, h3⟩
    · (refine wpc_region fun Kr hKr => ?_; simp only [go_sem, ↓reduceIte, Nat.reduceEqDiff, Nat.reduceAdd, Nat.reduceSub, Nat.reduceLeDiff, Nat.reduceMul, reduceCtorEq, Nat.reduceBEq, Int.reduceLT, Int.reduceLE, Int.reduceNeg, Int.reduceEq, h0, h3, e1, e2, e3]; with_reducible refine hKr _ ?_; clear hKr Kr)
      (refine wpc_region fun Kr hKr => ?_; simp only [go_sem, ↓reduceIte, Nat.reduceEqDiff, Nat.reduceAdd, Nat.reduceSub, Nat.reduceLeDiff, Nat.reduceMul, reduceCtorEq, Nat.reduceBEq, Int.reduceLT, Int.reduceLE, Int.reduceNeg, Int.reduceEq, h0, e4]; with_reducible refine hKr _ ?_; clear hKr Kr)
      exact fin _ _ (by simp only [go_sem, ↓reduceIte, Nat.reduceEqDiff, Nat.reduceAdd, Nat.reduceSub, Nat.reduceLeDiff, Nat.reduceMul, reduceCtorEq, Nat.reduceBEq, Int.reduceLT, Int.reduceLE, Int.reduceNeg, Int.reduceEq]) (by simp only [go_sem, ↓reduceIte, Nat.reduceEqDiff, Nat.reduceAdd, Nat.reduceSub, Nat.reduceLeDiff, Nat.reduceMul, reduceCtorEq, Nat.reduceBEq, Int.reduceLT, Int.reduceLE, Int.reduceNeg, Int.reduceEq])
    · (refine wpc_region fun Kr hKr => ?_; simp only [go_sem, ↓reduceIte, Nat.reduceEqDiff, Nat.reduceAdd, Nat.reduceSub, Nat.reduceLeDiff, Nat.reduceMul, reduceCtorEq, Nat.reduceBEq, Int.reduceLT, Int.reduceLE, Int.reduceNeg, Int.reduceEq, h0, h3, e1, e2, e3, hlen]; with_reducible refine hKr _ ?_; clear hKr Kr)
      (refine wpc_region fun Kr hKr => ?_; simp only [go_sem, ↓reduceIte, Nat.reduceEqDiff, Nat.reduceAdd, Nat.reduceSub, Nat.reduceLeDiff, Nat.reduceMul, reduceCtorEq, Nat.reduceBEq, Int.reduceLT, Int.reduceLE, Int.reduceNeg, Int.reduceEq, h0, e4]; with_reducible refine hKr _ ?_; clear hKr Kr)
      exact fin _ _ (by simp only [go_sem, ↓reduceIte, Nat.reduceEqDiff, Nat.reduceAdd, Nat.reduceSub, Nat.reduceLeDiff, Nat.reduceMul, reduceCtorEq, Nat.reduceBEq, Int.reduceLT, Int.reduceLE, Int.reduceNeg, Int.reduceEq]) (by simp only [go_sem, ↓reduceIte, Nat.reduceEqDiff, Nat.reduceAdd, Nat.reduceSub, Nat.reduceLeDiff, Nat.reduceMul, reduceCtorEq, Nat.reduceBEq, Int.reduceLT, Int.reduceLE, Int.reduceNeg, Int.reduceEq])
  · (refine wpc_false (by simp only [ev, lk, Nat.reduceEqDiff, ↓reduceIte, decide_true, decide_false, Bool.not_true, Bool.not_false, Bool.true_and, Bool.false_and, Bool.and_true, Bool.and_false, Bool.or_false, Bool.false_or, Bool.true_or, Bool.or_true, Bool.and_self, Bool.or_self, Int.cast_ofNat_Int, Int.natCast_inj, Int.ofNat_lt, Int.ofNat_le, Int.natCast_nonneg, eq_self, Int.reduceLT, Int.reduceLE, Int.reduceEq, Bool.false_eq_true, if_true, if_false, reduceCtorEq, and_self, and_true, true_and, and_false, false_and, e128, hb]) ?_)
    show wpc _ (.seq _ _) _ _
    have ho := u8_mod m
    have hm8 : m % 256 = m := by omega
    rw [hm8] at ho
    rw [pvL_small (show m < 128 by omega)] at hy
    have he := encB_ofNat (show m < 256 by omega)
    rcases hsl with ⟨rfl, rfl, h3⟩ | ⟨v, rfl, h3⟩
    · (refine wpc_seq ?_); (refine wpc_region fun Kr hKr => ?_; simp only [go_sem, ↓reduceIte, Nat.reduceEqDiff, Nat.reduceAdd, Nat.reduceSub, Nat.reduceLeDiff, Nat.reduceMul, reduceCtorEq, Nat.reduceBEq, Int.reduceLT, Int.reduceLE, Int.reduceNeg, Int.reduceEq, h0, h3, ho]; with_reducible refine hKr _ ?_; clear hKr Kr)
      (simp only [thenC, wpc_ret]; refine endsO (by simp only [retOf, retVals, oneOrTup, callArgs, callArgsL, evAll, ev, lk, shutAll, shut, nrm, nrm0, nrm1, upd, ↓reduceIte, Nat.reduceEqDiff, List.map_nil, List.map_cons, eq_self, if_true, if_false, reduceCtorEq, and_self, ownRes]; rfl) ?_)
      rw [← hy, List.nil_append, List.map_cons, he]; rfl
    · (refine wpc_seq ?_); (refine wpc_region fun Kr hKr => ?_; simp only [go_sem, ↓reduceIte, Nat.reduceEqDiff, Nat.reduceAdd, Nat.reduceSub, Nat.reduceLeDiff, Nat.reduceMul, reduceCtorEq, Nat.reduceBEq, Int.reduceLT, Int.reduceLE, Int.reduceNeg, Int.reduceEq, h0, h3, ho, hlen]; with_reducible refine hKr _ ?_; clear hKr Kr)
      (simp only [thenC, wpc_ret]; refine endsO (by simp only [retOf, retVals, oneOrTup, callArgs, callArgsL, evAll, ev, lk, shutAll, shut, nrm, nrm0, nrm1, upd, ↓reduceIte, Nat.reduceEqDiff, List.map_nil, List.map_cons, eq_self, if_true, if_false, reduceCtorEq, and_self, ownRes]; rfl) ?_)
      rw [← hy, List.map_append, List.map_cons, he]; rfl
theorem ref_putVarint_fc (n : Nat) (hn : n < 18446744073709551616) : FC Try.prog i_cartoucheref1_PutVarint [.int .u64 (n : Int)] (· = .slice ((pvL n).map encB)) := (ref_putVarint_oc n hn).fc

theorem shl7 {i n c : Nat} (hi : i ≤ 9) : IntKind.u64.wrap (IntKind.i64.wrap (7 * (i : Int))) = 7 * (i : Int) := by
  rw [wrap_i64 (by omega) (by omega), wrap_u64 (by omega) (by omega)]

theorem ref_getVarint_fc (bs : List UInt8) (a : Nat) (ha : a ≤ bs.length) (hb : bs.length < 4611686018427387904) : FC Try.prog i_cartoucheref1_GetVarint [.slice (bs.map encB), .int .i64 (a : Int)] (· = encGV (gvAt bs a)) := by
  (refine .of F_cartoucheref1_GetVarint T_cartoucheref1_GetVarint L_cartoucheref1_GetVarint ?_; unfold A_cartoucheref1_GetVarint; simp only [args0, List.map_cons, List.map_nil, List.zipIdx_cons, List.zipIdx_nil])
  (refine wpc_seq ?_); (refine wpc_region fun Kr hKr => ?_; simp only [go_sem, ↓reduceIte, Nat.reduceEqDiff, Nat.reduceAdd, Nat.reduceSub, Nat.reduceLeDiff, Nat.reduceMul, reduceCtorEq, Nat.reduceBEq, Int.reduceLT, Int.reduceLE, Int.reduceNeg, Int.reduceEq]; with_reducible refine hKr _ ?_; clear hKr Kr)
  (refine wpc_seq ?_); (refine wpc_region fun Kr hKr => ?_; simp only [go_sem, ↓reduceIte, Nat.reduceEqDiff, Nat.reduceAdd, Nat.reduceSub, Nat.reduceLeDiff, Nat.reduceMul, reduceCtorEq, Nat.reduceBEq, Int.reduceLT, Int.reduceLE, Int.reduceNeg, Int.reduceEq]; with_reducible refine hKr _ ?_; clear hKr Kr)
  (refine wpc_seq ?_); (refine wpc_region fun Kr hKr => ?_; simp only [go_sem, ↓reduceIte, Nat.reduceEqDiff, Nat.reduceAdd, Nat.reduceSub, Nat.reduceLeDiff, Nat.reduceMul, reduceCtorEq, Nat.reduceBEq, Int.reduceLT, Int.reduceLE, Int.reduceNeg, Int.reduceEq]; with_reducible refine hKr _ ?_; clear hKr Kr)
  show wpc _ (.block 0 (.loop _)) _ _
  refine wpc_loop (fun m s => ∃ i n : Nat, m = 10 - i ∧ i ≤ 9 ∧ a + i ≤ bs.length ∧ n < 128 ^ i ∧ gvL (bs.drop a) 0 0 = gvL (bs.drop (a + i)) i n ∧ s.σ = [] ∧ lk s.ρ 0 = some (.iv (.slice (bs.map encB))) ∧ lk s.ρ 1 = some (.iv (.int .i64 (a : Int))) ∧
      lk s.ρ 7 = some (.iv (.int .u64 (n : Int))) ∧ lk s.ρ 8 = some (.iv (.int .i64 (i : Int)))) 10 ⟨0, 0, rfl, by omega, by omega, by simp, rfl, rfl, ?_, ?_, ?_, ?_⟩ ?_
  · simp only [go_sem, ↓reduceIte, Nat.reduceEqDiff, Nat.reduceAdd, Nat.reduceSub, Nat.reduceLeDiff, Nat.reduceMul, reduceCtorEq, Nat.reduceBEq, Int.reduceLT, Int.reduceLE, Int.reduceNeg, Int.reduceEq]
  · simp only [go_sem, ↓reduceIte, Nat.reduceEqDiff, Nat.reduceAdd, Nat.reduceSub, Nat.reduceLeDiff, Nat.reduceMul, reduceCtorEq, Nat.reduceBEq, Int.reduceLT, Int.reduceLE, Int.reduceNeg, Int.reduceEq]
  · simp only [go_sem, ↓reduceIte, Nat.reduceEqDiff, Nat.reduceAdd, Nat.reduceSub, Nat.reduceLeDiff, Nat.reduceMul, reduceCtorEq, Nat.reduceBEq, Int.reduceLT, Int.reduceLE, Int.reduceNeg, Int.reduceEq]
  · simp only [go_sem, ↓reduceIte, Nat.reduceEqDiff, Nat.reduceAdd, Nat.reduceSub, Nat.reduceLeDiff, Nat.reduceMul, reduceCtorEq, Nat.reduceBEq, Int.reduceLT, Int.reduceLE, Int.reduceNeg, Int.reduceEq]
  rintro m s ⟨i, n, rfl, hi, hai, hn, hg, hσ, h0, h1, h7, h8⟩ K hK
  obtain ⟨ρ, σ⟩ := s
  simp only at hσ h0 h1 h7 h8
  subst hσ
  have w1 : IntKind.i64.wrap ((a : Int) + i) = ((a + i : Nat) : Int) := by rw [wrap_i64 (by omega) (by omega)]; omega
  (refine wpc_seq ?_)
  show wpc _ (.seq _ _) _ _
  (refine wpc_seq ?_); (refine wpc_seq ?_); (refine wpc_region fun Kr hKr => ?_; simp only [go_sem, ↓reduceIte, Nat.reduceEqDiff, Nat.reduceAdd, Nat.reduceSub, Nat.reduceLeDiff, Nat.reduceMul, reduceCtorEq, Nat.reduceBEq, Int.reduceLT, Int.reduceLE, Int.reduceNeg, Int.reduceEq, h0, h1, h7, h8, w1]; with_reducible refine hKr _ ?_; clear hKr Kr)
  by_cases he : bs.length ≤ a + i
  · have he' : a + i = bs.length := by omega
    (refine wpc_true (by simp only [ev, lk, Nat.reduceEqDiff, ↓reduceIte, decide_true, decide_false, Bool.not_true, Bool.not_false, Bool.true_and, Bool.false_and, Bool.and_true, Bool.and_false, Bool.or_false, Bool.false_or, Bool.true_or, Bool.or_true, Bool.and_self, Bool.or_self, Int.cast_ofNat_Int, Int.natCast_inj, Int.ofNat_lt, Int.ofNat_le, Int.natCast_nonneg, eq_self, Int.reduceLT, Int.reduceLE, Int.reduceEq, Bool.false_eq_true, if_true, if_false, reduceCtorEq, and_self, and_true, true_and, and_false, false_and, he]) ?_)
    (refine wpc_seq ?_); (refine wpc_region fun Kr hKr => ?_; simp only [go_sem, ↓reduceIte, Nat.reduceEqDiff, Nat.reduceAdd, Nat.reduceSub, Nat.reduceLeDiff, Nat.reduceMul, reduceCtorEq, Nat.reduceBEq, Int.reduceLT, Int.reduceLE, Int.reduceNeg, Int.reduceEq]; with_reducible refine hKr _ ?_; clear hKr Kr)
    (refine endsV (x := _) (σ' := _) (by simp only [retOf, retVals, oneOrTup, callArgs, callArgsL, evAll, ev, lk, shutAll, shut, nrm, nrm0, nrm1, upd, ↓reduceIte, Nat.reduceEqDiff, List.map_nil, List.map_cons, eq_self, if_true, if_false, reduceCtorEq, and_self, ownRes]; rfl) ?_)
    have : gvL (bs.drop (a + i)) i n = (0, 0, 3) := by rw [he', List.drop_length]; rfl
    rw [gvAt_err (by omega) (hg.trans this)]; rfl
  · have hlt : a + i < bs.length := by omega
    have hx := List.getElem?_eq_getElem hlt
    obtain ⟨b, hbb⟩ : ∃ b, bs[a + i]? = some b := ⟨_, hx⟩
    have hm : (bs.map encB)[a + i]? = some (encB b) := by simp [hbb]
    have hgd := gvL_drop (i := i) (n := n) hbb
    have hbl := b.toNat_lt
    (refine wpc_false (by simp only [ev, lk, Nat.reduceEqDiff, ↓reduceIte, decide_true, decide_false, Bool.not_true, Bool.not_false, Bool.true_and, Bool.false_and, Bool.and_true, Bool.and_false, Bool.or_false, Bool.false_or, Bool.true_or, Bool.or_true, Bool.and_self, Bool.or_self, Int.cast_ofNat_Int, Int.natCast_inj, Int.ofNat_lt, Int.ofNat_le, Int.natCast_nonneg, eq_self, Int.reduceLT, Int.reduceLE, Int.reduceEq, Bool.false_eq_true, if_true, if_false, reduceCtorEq, and_self, and_true, true_and, and_false, false_and, he]) ?_)
    (refine wpc_skip' ?_)
    (refine wpc_seq ?_); (refine wpc_region fun Kr hKr => ?_; simp only [go_sem, ↓reduceIte, Nat.reduceEqDiff, Nat.reduceAdd, Nat.reduceSub, Nat.reduceLeDiff, Nat.reduceMul, reduceCtorEq, Nat.reduceBEq, Int.reduceLT, Int.reduceLE, Int.reduceNeg, Int.reduceEq, h0, h1, h7, h8, w1, hm, encB]; with_reducible refine hKr _ ?_; clear hKr Kr)
    (refine wpc_seq ?_); (refine wpc_seq ?_)
    have ec : (1 < (b.toNat : Int)) ↔ (1 < b.toNat) := by omega
    have ec128 : ((b.toNat : Int) < 128) ↔ (b.toNat < 128) := by omega
    have e127 : Int.tmod (b.toNat : Int) 128 = ((b.toNat % 128 : Nat) : Int) := by rw [IntWalk.rem_in _ _ (by omega)]; omega
    have wc : IntKind.u64.wrap ((b.toNat % 128 : Nat) : Int) = ((b.toNat % 128 : Nat) : Int) := wrap_u64 (by omega) (by omega)
    have wm : IntKind.u64.wrap (IntKind.i64.wrap (7 * (i : Int))) = 7 * (i : Int) := shl7 (n := 0) (c := 0) hi
    have hsh : ¬ (7 * (i : Int) < 0) := by omega
    have ei : ((i : Int) = 9) ↔ i = 9 := by omega
    (refine wpc_regionI fun Kr hKr => ?_; simp only [go_sem, ↓reduceIte, Nat.reduceEqDiff, Nat.reduceAdd, Nat.reduceSub, Nat.reduceLeDiff, Nat.reduceMul, reduceCtorEq, Nat.reduceBEq, Int.reduceLT, Int.reduceLE, Int.reduceNeg, Int.reduceEq, h0, h1, h7, h8, encB]; with_reducible refine hKr _ ?_; clear hKr Kr)
    by_cases hbad : i = 9 ∧ 1 < b.toNat
    · obtain ⟨h9, hb1⟩ := hbad
      have e9 : ((i : Int) = 9) := by omega
      (refine wpc_true (by simp only [ev, lk, Nat.reduceEqDiff, ↓reduceIte, decide_true, decide_false, Bool.not_true, Bool.not_false, Bool.true_and, Bool.false_and, Bool.and_true, Bool.and_false, Bool.or_false, Bool.false_or, Bool.true_or, Bool.or_true, Bool.and_self, Bool.or_self, Int.cast_ofNat_Int, Int.natCast_inj, Int.ofNat_lt, Int.ofNat_le, Int.natCast_nonneg, eq_self, Int.reduceLT, Int.reduceLE, Int.reduceEq, Bool.false_eq_true, if_true, if_false, reduceCtorEq, and_self, and_true, true_and, and_false, false_and, ec, e9, hb1]) ?_)
      (refine wpc_seq ?_); (refine wpc_region fun Kr hKr => ?_; simp only [go_sem, ↓reduceIte, Nat.reduceEqDiff, Nat.reduceAdd, Nat.reduceSub, Nat.reduceLeDiff, Nat.reduceMul, reduceCtorEq, Nat.reduceBEq, Int.reduceLT, Int.reduceLE, Int.reduceNeg, Int.reduceEq]; with_reducible refine hKr _ ?_; clear hKr Kr)
      (refine endsV (x := _) (σ' := _) (by simp only [retOf, retVals, oneOrTup, callArgs, callArgsL, evAll, ev, lk, shutAll, shut, nrm, nrm0, nrm1, upd, ↓reduceIte, Nat.reduceEqDiff, List.map_nil, List.map_cons, eq_self, if_true, if_false, reduceCtorEq, and_self, ownRes]; rfl) ?_)
      rw [gvAt_err (by omega) (hg.trans (hgd.trans (if_pos ⟨h9, hb1⟩)))]; rfl
    · rw [if_neg hbad] at hgd
      have hd := digit_or (n := n) (c := b.toNat % 128) hi hn (Nat.mod_lt _ (by omega)) (by omega)
      have hd' : bitOp .or .u64 (n : Int) (IntKind.u64.wrap (((b.toNat % 128 : Nat) : Int) * 2 ^ (min ((7 * (i : Int)).toNat) IntKind.u64.bits))) = ((n + b.toNat % 128 * 128 ^ i : Nat) : Int) := hd
      have hbad' : (decide (i = 9) && decide (1 < b.toNat)) = false := by simpa using hbad
      (refine wpc_false (by simp only [ev, lk, Nat.reduceEqDiff, ↓reduceIte, decide_true, decide_false, Bool.not_true, Bool.not_false, Bool.true_and, Bool.false_and, Bool.and_true, Bool.and_false, Bool.or_false, Bool.false_or, Bool.true_or, Bool.or_true, Bool.and_self, Bool.or_self, Int.cast_ofNat_Int, Int.natCast_inj, Int.ofNat_lt, Int.ofNat_le, Int.natCast_nonneg, eq_self, Int.reduceLT, Int.reduceLE, Int.reduceEq, Bool.false_eq_true, if_true, if_false, reduceCtorEq, and_self, and_true, true_and, and_false, false_and, ec, ei, hbad']) ?_)
      (refine wpc_skip' ?_)
      (refine wpc_seq ?_); (refine wpc_region fun Kr hKr => ?_; simp only [go_sem, ↓reduceIte, Nat.reduceEqDiff, Nat.reduceAdd, Nat.reduceSub, Nat.reduceLeDiff, Nat.reduceMul, reduceCtorEq, Nat.reduceBEq, Int.reduceLT, Int.reduceLE, Int.reduceNeg, Int.reduceEq, h0, h1, h7, h8, encB, shfOp, e127, wc, wm, hsh, hd']; with_reducible refine hKr _ ?_; clear hKr Kr)
      (refine wpc_seq ?_); (refine wpc_region fun Kr hKr => ?_; simp only [go_sem, ↓reduceIte, Nat.reduceEqDiff, Nat.reduceAdd, Nat.reduceSub, Nat.reduceLeDiff, Nat.reduceMul, reduceCtorEq, Nat.reduceBEq, Int.reduceLT, Int.reduceLE, Int.reduceNeg, Int.reduceEq, encB]; with_reducible refine hKr _ ?_; clear hKr Kr)
      by_cases hlast : b.toNat < 128
      · rw [if_pos hlast] at hgd
        have w2 : IntKind.i64.wrap (((a + i : Nat) : Int) + 1) = ((a + (i + 1) : Nat) : Int) := by rw [wrap_i64 (by omega) (by omega)]; omega
        (refine wpc_true (by simp only [ev, lk, Nat.reduceEqDiff, ↓reduceIte, decide_true, decide_false, Bool.not_true, Bool.not_false, Bool.true_and, Bool.false_and, Bool.and_true, Bool.and_false, Bool.or_false, Bool.false_or, Bool.true_or, Bool.or_true, Bool.and_self, Bool.or_self, Int.cast_ofNat_Int, Int.natCast_inj, Int.ofNat_lt, Int.ofNat_le, Int.natCast_nonneg, eq_self, Int.reduceLT, Int.reduceLE, Int.reduceEq, Bool.false_eq_true, if_true, if_false, reduceCtorEq, and_self, and_true, true_and, and_false, false_and, ec128, hlast]) ?_)
        (refine wpc_seq ?_); (refine wpc_region fun Kr hKr => ?_; simp only [go_sem, ↓reduceIte, Nat.reduceEqDiff, Nat.reduceAdd, Nat.reduceSub, Nat.reduceLeDiff, Nat.reduceMul, reduceCtorEq, Nat.reduceBEq, Int.reduceLT, Int.reduceLE, Int.reduceNeg, Int.reduceEq, h0, h1, h7, h8, w1, w2]; with_reducible refine hKr _ ?_; clear hKr Kr)
        (refine endsV (x := _) (σ' := _) (by simp only [retOf, retVals, oneOrTup, callArgs, callArgsL, evAll, ev, lk, shutAll, shut, nrm, nrm0, nrm1, upd, ↓reduceIte, Nat.reduceEqDiff, List.map_nil, List.map_cons, eq_self, if_true, if_false, reduceCtorEq, and_self, ownRes]; rfl) ?_)
        rw [gvAt_ok (by omega) (hg.trans hgd)]; rfl
      · rw [if_neg hlast] at hgd
        (refine wpc_false (by simp only [ev, lk, Nat.reduceEqDiff, ↓reduceIte, decide_true, decide_false, Bool.not_true, Bool.not_false, Bool.true_and, Bool.false_and, Bool.and_true, Bool.and_false, Bool.or_false, Bool.false_or, Bool.true_or, Bool.or_true, Bool.and_self, Bool.or_self, Int.cast_ofNat_Int, Int.natCast_inj, Int.ofNat_lt, Int.ofNat_le, Int.natCast_nonneg, eq_self, Int.reduceLT, Int.reduceLE, Int.reduceEq, Bool.false_eq_true, if_true, if_false, reduceCtorEq, and_self, and_true, true_and, and_false, false_and, ec128, hlast]) ?_)
        (refine wpc_skip' ?_)
        have w3 : IntKind.i64.wrap ((i : Int) + 1) = ((i + 1 : Nat) : Int) := by rw [wrap_i64 (by omega) (by omega)]; omega
        (refine wpc_region fun Kr hKr => ?_; simp only [go_sem, ↓reduceIte, Nat.reduceEqDiff, Nat.reduceAdd, Nat.reduceSub, Nat.reduceLeDiff, Nat.reduceMul, reduceCtorEq, Nat.reduceBEq, Int.reduceLT, Int.reduceLE, Int.reduceNeg, Int.reduceEq, h8, w3]; with_reducible refine hKr _ ?_; clear hKr Kr)
        have hi9 : i ≠ 9 := by intro h; omega
        refine hK _ (10 - (i + 1)) (by omega) ⟨i + 1, _, rfl, by omega, by omega, ?_, hg.trans hgd, rfl, ?_, ?_, ?_, ?_⟩
        · have h1 : b.toNat % 128 < 128 := Nat.mod_lt _ (by omega)
          have h2 : b.toNat % 128 * 128 ^ i ≤ 127 * 128 ^ i := Nat.mul_le_mul_right _ (by omega)
          rw [Nat.pow_succ]; omega
        · simp only [go_sem, ↓reduceIte, Nat.reduceEqDiff, Nat.reduceAdd, Nat.reduceSub, Nat.reduceLeDiff, Nat.reduceMul, reduceCtorEq, Nat.reduceBEq, Int.reduceLT, Int.reduceLE, Int.reduceNeg, Int.reduceEq, h0]
        · simp only [go_sem, ↓reduceIte, Nat.reduceEqDiff, Nat.reduceAdd, Nat.reduceSub, Nat.reduceLeDiff, Nat.reduceMul, reduceCtorEq, Nat.reduceBEq, Int.reduceLT, Int.reduceLE, Int.reduceNeg, Int.reduceEq, h1]
        · simp only [go_sem, ↓reduceIte, Nat.reduceEqDiff, Nat.reduceAdd, Nat.reduceSub, Nat.reduceLeDiff, Nat.reduceMul, reduceCtorEq, Nat.reduceBEq, Int.reduceLT, Int.reduceLE, Int.reduceNeg, Int.reduceEq]
        · simp only [go_sem, ↓reduceIte, Nat.reduceEqDiff, Nat.reduceAdd, Nat.reduceSub, Nat.reduceLeDiff, Nat.reduceMul, reduceCtorEq, Nat.reduceBEq, Int.reduceLT, Int.reduceLE, Int.reduceNeg, Int.reduceEq]
end Go.Proofs.Ytfmeedphpcjkmaa.Ag
