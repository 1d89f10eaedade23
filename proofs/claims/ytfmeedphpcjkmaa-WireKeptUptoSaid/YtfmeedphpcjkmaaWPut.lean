/- The walk over the functions that write numbers. -/
import Derived.Test.YtfmeedphpcjkmaaWGet
-- sem
set_option linter.unusedVariables false
set_option linter.unusedSimpArgs false
namespace Go.Proofs.Ytfmeedphpcjkmaa.Ag
attribute [local go_sem] runTo_nil runTo_n runTo_g conT_some conT_none conB_true conB_false conG_bool runI_nil runI_n runI_g conTI_some conTI_none conBI_some conBI_none conGI_bool runD_nil runD_n runD_g conDB_some conDB_none conDF_some conDF_none conD_true conD_false conDW_true conDW_false conDG_bool gρ openV pickB opds aop ev evOpt evAll callArgs callArgsL ownRes shutAll shut nrm nrm0 nrm1 St.put lk upd nxt bin2 un1 intOp lenOf isStr isBoolIV notNil IV.cells fldA fldV partIV partTV loadOf storeOf cellsOf TV.cells? mkAgg ivsOf splice fillTV dstOf dstOf0 srcOf srcOf0 unIf isNilS condP retOf retVals oneOrTup thenC blockC List.map_cons List.map_nil List.length_cons List.length_nil List.length_map Option.map_some Bool.not_true Bool.not_false Bool.true_and Bool.false_and Bool.and_true Bool.and_false Bool.false_eq_true if_true if_false decide_true decide_false List.contains_nil List.contains_cons eq_self Int.toNat_natCast Option.getD_some Option.getD_none and_true true_and List.getElem?_cons_zero List.getElem?_cons_succ List.drop_zero List.drop_succ_cons List.take_succ_cons List.take_zero List.nil_append List.cons_append wpr_nil wprd_nil Int.natCast_nonneg Int.natCast_inj Int.ofNat_lt Int.ofNat_le Bool.cond_false_right Bool.cond_true_left Bool.cond_false_left Bool.cond_true_right cond_true cond_false beq_true beq_false Bool.not_eq_true beq_self_eq_true oneSize Nat.mul_one List.length_append Int.toNat_zero List.replicate_zero Int.cast_ofNat_Int Int.mul_one Bool.or_false Bool.false_or Bool.true_or Bool.or_true Bool.and_self Bool.or_self
attribute [-go_sem] IntKind.bits

theorem i64_64 : IntKind.u64.bits = 64 := rfl
theorem shr7 (m : Nat) : Int.fdiv (m : Int) (2 ^ (min ((7 : Int).toNat) IntKind.u64.bits)) = ((m / 128 : Nat) : Int) := by
  rw [show ((2 : Int) ^ (min ((7 : Int).toNat) IntKind.u64.bits)) = ((128 : Nat) : Int) by decide]
  rw [Int.fdiv_eq_ediv_of_nonneg _ (by omega)]; omega
theorem u8_mod (m : Nat) : IntKind.u8.wrap (m : Int) = ((m % 256 : Nat) : Int) := by
  rw [IntKind.wrap_u8]; omega
theorem or128 (m : Nat) : bitOp .or .u8 (IntKind.u8.wrap (m : Int)) 128 = ((m % 128 + 128 : Nat) : Int) := by
  rw [u8_mod]
  unfold bitOp
  have hm : m % 256 < 2 ^ 8 := by omega
  have h1 : (BitVec.ofInt IntKind.u8.bits ((m % 256 : Nat) : Int) ||| BitVec.ofInt IntKind.u8.bits 128).toNat = m % 128 + 128 := by
    rw [BitVec.toNat_or, u8_bits, ofInt_nat (m % 256) hm, show ((128 : Int)) = ((128 : Nat) : Int) by rfl, ofInt_nat 128 (by decide)]
    have h := Nat.shiftLeft_add_eq_or_of_lt (i := 7) (show m % 128 < 2 ^ 7 by omega) 1
    have e : (m % 256) ||| 128 = (m % 128) ||| 128 := by
      by_cases hb : m % 256 < 128
      · have : m % 256 = m % 128 := by omega
        rw [this]
      · have h3 := Nat.shiftLeft_add_eq_or_of_lt (i := 7) (show m % 128 < 2 ^ 7 by omega) 1
        have : m % 256 = (1 <<< 7) ||| (m % 128) := by rw [← h3, Nat.shiftLeft_eq]; omega
        rw [this, Nat.or_comm _ 128, ← Nat.or_assoc, show (128 ||| 1 <<< 7) = 128 by decide, Nat.or_comm]
    rw [e, Nat.or_comm]
    have h' : 128 + m % 128 = 128 ||| m % 128 := h
    omega
  simp only [h1]
  exact wrap_u8 (by omega) (by omega)
theorem encB_ofNat {m : Nat} (h : m < 256) : encB (UInt8.ofNat m) = .int .u8 (m : Int) := by
  unfold encB
  rw [UInt8.toNat_ofNat']
  have : m % 2 ^ 8 = m := Nat.mod_eq_of_lt (by omega)
  rw [this]
theorem pvL_len {n : Nat} : ∀ k, n < 128 ^ (k + 1) → (pvL n).length ≤ k + 1 := by
  intro k
  induction k generalizing n with
  | zero => intro h; rw [pvL_small (by simpa using h)]; simp
  | succ k ih =>
    intro h
    by_cases hn : n < 128
    · rw [pvL_small hn]; simp
    · rw [pvL_big (by omega)]
      have := ih (n := n / 128) (by rw [Nat.pow_succ] at h; omega)
      simp; omega
theorem pvL_len10 {n : Nat} (h : n < 18446744073709551616) : (pvL n).length ≤ 10 := pvL_len 9 (by omega)
theorem pvL_pos (n : Nat) : 0 < (pvL n).length := by
  by_cases h : n < 128
  · rw [pvL_small h]; simp
  · rw [pvL_big (by omega)]; simp

theorem varint_lc (e : Nat) (he : e = 5) (xs : List IV) (n : Nat) (hn : n < 18446744073709551616) (hx : xs.length ≤ 140737488355318) : LC Try.prog i_wire_varint e 1 xs [.int .u64 n] (· = xs ++ (pvL n).map encB) := by
  subst he
  unfold LC
  refine GC.of F_wire_varint T_wire_varint L_wire_varint ?_
  unfold A_wire_varint
  simp only [args0, List.map_cons, List.map_nil, List.zipIdx_cons, List.zipIdx_nil]
  (refine wpc_seq ?_); (refine wpc_region fun Kr hKr => ?_; simp only [go_sem, ↓reduceIte, Nat.reduceEqDiff, Nat.reduceAdd, Nat.reduceSub, Nat.reduceLeDiff, Nat.reduceMul, reduceCtorEq, Nat.reduceBEq, Int.reduceLT, Int.reduceLE, Int.reduceNeg, Int.reduceEq]; with_reducible refine hKr _ ?_; clear hKr Kr)
  (refine wpc_seq ?_)
  show wpc _ (.block 0 (.loop _)) _ _
  refine wpc_loop (fun m s => ∃ (v : Nat) (ys : List UInt8), ys.length + (pvL m).length ≤ 10 ∧ m < 18446744073709551616 ∧ ys ++ pvL m = pvL n ∧ s.σ = [(0, v, .list 5 1 (xs ++ ys.map encB))] ∧ lk s.ρ 0 = some (.lst 0 v) ∧ lk s.ρ 1 = some (.iv (.int .u64 (m : Int)))) n
    ⟨0, [], by have := pvL_len10 hn; simpa using this, hn, by simp, ?_, ?_, ?_⟩ ?_
  · simp only [go_sem, ↓reduceIte, Nat.reduceEqDiff, Nat.reduceAdd, Nat.reduceSub, Nat.reduceLeDiff, Nat.reduceMul, reduceCtorEq, Nat.reduceBEq, Int.reduceLT, Int.reduceLE, Int.reduceNeg, Int.reduceEq, List.append_nil]
  · simp only [go_sem, ↓reduceIte, Nat.reduceEqDiff, Nat.reduceAdd, Nat.reduceSub, Nat.reduceLeDiff, Nat.reduceMul, reduceCtorEq, Nat.reduceBEq, Int.reduceLT, Int.reduceLE, Int.reduceNeg, Int.reduceEq]
  · simp only [go_sem, ↓reduceIte, Nat.reduceEqDiff, Nat.reduceAdd, Nat.reduceSub, Nat.reduceLeDiff, Nat.reduceMul, reduceCtorEq, Nat.reduceBEq, Int.reduceLT, Int.reduceLE, Int.reduceNeg, Int.reduceEq]
  rintro m s ⟨v, ys, hl, hm, hy, hσ, h0, h1⟩ K hK
  obtain ⟨ρ, σ⟩ := s
  simp only at hσ h0 h1
  subst hσ
  (refine wpc_seq ?_); (refine wpc_seq ?_); (refine wpc_region fun Kr hKr => ?_; simp only [go_sem, ↓reduceIte, Nat.reduceEqDiff, Nat.reduceAdd, Nat.reduceSub, Nat.reduceLeDiff, Nat.reduceMul, reduceCtorEq, Nat.reduceBEq, Int.reduceLT, Int.reduceLE, Int.reduceNeg, Int.reduceEq, h0, h1]; with_reducible refine hKr _ ?_; clear hKr Kr)
  have e128 : ((128 : Int) ≤ (m : Int)) ↔ 128 ≤ m := by omega
  by_cases hb : 128 ≤ m
  · (refine wpc_true (by simp only [ev, lk, Nat.reduceEqDiff, ↓reduceIte, decide_true, decide_false, Bool.not_true, Bool.not_false, Bool.true_and, Bool.false_and, Bool.and_true, Bool.and_false, Bool.or_false, Bool.false_or, Bool.true_or, Bool.or_true, Bool.and_self, Bool.or_self, Int.cast_ofNat_Int, Int.natCast_inj, Int.ofNat_lt, Int.ofNat_le, Int.natCast_nonneg, eq_self, Int.reduceLT, Int.reduceLE, Int.reduceEq, Bool.false_eq_true, if_true, if_false, reduceCtorEq, and_self, and_true, true_and, and_false, false_and, e128, hb]) ?_)
    (refine wpc_skip' ?_)
    (refine wpc_seq ?_)
    have ho := or128 m
    rw [pvL_big hb] at hl hy
    simp only [List.length_cons] at hl
    have hlen : xs.length + ys.length + 1 ≤ 140737488355328 := by omega
    (refine wpc_region fun Kr hKr => ?_; simp only [go_sem, ↓reduceIte, Nat.reduceEqDiff, Nat.reduceAdd, Nat.reduceSub, Nat.reduceLeDiff, Nat.reduceMul, reduceCtorEq, Nat.reduceBEq, Int.reduceLT, Int.reduceLE, Int.reduceNeg, Int.reduceEq, h0, h1, ho, hlen]; with_reducible refine hKr _ ?_; clear hKr Kr)
    have hs := shr7 m
    have g : ¬ ((7 : Int) < 0) := by omega
    (refine wpc_region fun Kr hKr => ?_; simp only [go_sem, ↓reduceIte, Nat.reduceEqDiff, Nat.reduceAdd, Nat.reduceSub, Nat.reduceLeDiff, Nat.reduceMul, reduceCtorEq, Nat.reduceBEq, Int.reduceLT, Int.reduceLE, Int.reduceNeg, Int.reduceEq, h1, shfOp, hs, g]; with_reducible refine hKr _ ?_; clear hKr Kr)
    refine hK _ (m / 128) (by omega) ⟨v + 1, ys ++ [UInt8.ofNat (m % 128 + 128)], by simp only [List.length_append, List.length_cons, List.length_nil]; omega, by omega, by rw [List.append_assoc]; exact hy, ?_, ?_, ?_⟩
    · simp only [go_sem, ↓reduceIte, Nat.reduceEqDiff, Nat.reduceAdd, Nat.reduceSub, Nat.reduceLeDiff, Nat.reduceMul, reduceCtorEq, Nat.reduceBEq, Int.reduceLT, Int.reduceLE, Int.reduceNeg, Int.reduceEq, List.map_append, encB_ofNat (show m % 128 + 128 < 256 by omega), List.append_assoc]
    · simp only [go_sem, ↓reduceIte, Nat.reduceEqDiff, Nat.reduceAdd, Nat.reduceSub, Nat.reduceLeDiff, Nat.reduceMul, reduceCtorEq, Nat.reduceBEq, Int.reduceLT, Int.reduceLE, Int.reduceNeg, Int.reduceEq]
    · simp only [go_sem, ↓reduceIte, Nat.reduceEqDiff, Nat.reduceAdd, Nat.reduceSub, Nat.reduceLeDiff, Nat.reduceMul, reduceCtorEq, Nat.reduceBEq, Int.reduceLT, Int.reduceLE, Int.reduceNeg, Int.reduceEq]
  · (refine wpc_false (by simp only [ev, lk, Nat.reduceEqDiff, ↓reduceIte, decide_true, decide_false, Bool.not_true, Bool.not_false, Bool.true_and, Bool.false_and, Bool.and_true, Bool.and_false, Bool.or_false, Bool.false_or, Bool.true_or, Bool.or_true, Bool.and_self, Bool.or_self, Int.cast_ofNat_Int, Int.natCast_inj, Int.ofNat_lt, Int.ofNat_le, Int.natCast_nonneg, eq_self, Int.reduceLT, Int.reduceLE, Int.reduceEq, Bool.false_eq_true, if_true, if_false, reduceCtorEq, and_self, and_true, true_and, and_false, false_and, e128, hb]) ?_)
    show wpc _ (.seq _ _) _ _
    have ho := u8_mod m
    have hm8 : m % 256 = m := by omega
    rw [hm8] at ho
    have hlen : xs.length + ys.length + 1 ≤ 140737488355328 := by
      have := pvL_pos m
      omega
    (refine wpc_seq ?_); (refine wpc_region fun Kr hKr => ?_; simp only [go_sem, ↓reduceIte, Nat.reduceEqDiff, Nat.reduceAdd, Nat.reduceSub, Nat.reduceLeDiff, Nat.reduceMul, reduceCtorEq, Nat.reduceBEq, Int.reduceLT, Int.reduceLE, Int.reduceNeg, Int.reduceEq, h0, h1, ho, hlen]; with_reducible refine hKr _ ?_; clear hKr Kr)
    simp only [thenC, wpc_ret]
    refine endsIn_ret (vs := [.lst 0 (v + 1)]) ?_ ?_
    · simp only [go_sem, ↓reduceIte, Nat.reduceEqDiff, Nat.reduceAdd, Nat.reduceSub, Nat.reduceLeDiff, Nat.reduceMul, reduceCtorEq, Nat.reduceBEq, Int.reduceLT, Int.reduceLE, Int.reduceNeg, Int.reduceEq]
    · refine ⟨_, _, rfl, rfl, ?_⟩
      rw [pvL_small (show m < 128 by omega)] at hy
      rw [← hy, List.map_append, ← List.append_assoc, List.map_cons, encB_ofNat (by omega)]
      rfl
end Go.Proofs.Ytfmeedphpcjkmaa.Ag
