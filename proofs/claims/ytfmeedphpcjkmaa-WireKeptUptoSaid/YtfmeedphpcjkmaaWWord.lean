/- The walk over words and chunks. -/
import Derived.Test.YtfmeedphpcjkmaaWAwake
-- sem
set_option linter.unusedVariables false
set_option linter.unusedSimpArgs false
namespace Go.Proofs.Ytfmeedphpcjkmaa.Ag
attribute [local go_sem] runTo_nil runTo_n runTo_g conT_some conT_none conB_true conB_false conG_bool runI_nil runI_n runI_g conTI_some conTI_none conBI_some conBI_none conGI_bool runD_nil runD_n runD_g conDB_some conDB_none conDF_some conDF_none conD_true conD_false conDW_true conDW_false conDG_bool gρ openV pickB opds aop ev evOpt evAll callArgs callArgsL ownRes shutAll shut nrm nrm0 nrm1 St.put lk upd nxt bin2 un1 intOp lenOf isStr isBoolIV notNil IV.cells fldA fldV partIV partTV loadOf storeOf cellsOf TV.cells? mkAgg ivsOf splice fillTV dstOf dstOf0 srcOf srcOf0 unIf isNilS condP retOf retVals oneOrTup thenC blockC List.map_cons List.map_nil List.length_cons List.length_nil List.length_map Option.map_some Bool.not_true Bool.not_false Bool.true_and Bool.false_and Bool.and_true Bool.and_false Bool.false_eq_true if_true if_false decide_true decide_false List.contains_nil List.contains_cons eq_self Int.toNat_natCast Option.getD_some Option.getD_none and_true true_and List.getElem?_cons_zero List.getElem?_cons_succ List.drop_zero List.drop_succ_cons List.take_succ_cons List.take_zero List.nil_append List.cons_append wpr_nil wprd_nil Int.natCast_nonneg Int.natCast_inj Int.ofNat_lt Int.ofNat_le Bool.cond_false_right Bool.cond_true_left Bool.cond_false_left Bool.cond_true_right cond_true cond_false beq_true beq_false Bool.not_eq_true beq_self_eq_true oneSize Nat.mul_one List.length_append Int.toNat_zero List.replicate_zero Int.cast_ofNat_Int Int.mul_one Bool.or_false Bool.false_or Bool.true_or Bool.or_true Bool.and_self Bool.or_self
attribute [-go_sem] IntKind.bits

/-! ### words as lists -/
def wdL (n : Nat) : Nat → List UInt8
  | 0 => []
  | s + 1 => wdL n s ++ [UInt8.ofNat (n / 256 ^ s % 256)]
def leN : List UInt8 → Nat
  | [] => 0
  | b :: r => b.toNat + 256 * leN r
theorem leN_append : ∀ (l : List UInt8) (b : UInt8), leN (l ++ [b]) = leN l + b.toNat * 256 ^ l.length
  | [], b => by simp [leN]
  | a :: l, b => by
    simp only [List.cons_append, leN, leN_append l b, List.length_cons, Nat.pow_succ, Nat.mul_add, Nat.add_assoc]
    congr 2
    rw [Nat.mul_comm 256, Nat.mul_assoc]
theorem leN_lt : ∀ l : List UInt8, leN l < 256 ^ l.length
  | [] => by simp [leN]
  | b :: r => by
    have := leN_lt r
    have hb := b.toNat_lt
    simp only [leN, List.length_cons, Nat.pow_succ]
    omega
theorem wdL_len (n : Nat) : ∀ s, (wdL n s).length = s
  | 0 => rfl
  | s + 1 => by simp [wdL, wdL_len n s]
theorem wdL_mod (n : Nat) : ∀ s, s ≤ 4 → wdL (n % 4294967296) s = wdL n s
  | 0, _ => rfl
  | s + 1, h => by
    simp only [wdL, wdL_mod n s (by omega)]
    congr 3
    have : s = 0 ∨ s = 1 ∨ s = 2 ∨ s = 3 := by omega
    rcases this with rfl | rfl | rfl | rfl <;> simp <;> omega

theorem shr8 (m i : Nat) (hi : i ≤ 7) : Int.fdiv (m : Int) (2 ^ (min ((8 * (i : Int)).toNat) IntKind.u64.bits)) = ((m / 256 ^ i : Nat) : Int) := by
  have e1 : (8 * (i : Int)).toNat = 8 * i := by omega
  have e2 : min (8 * i) IntKind.u64.bits = 8 * i := by rw [u64_bits]; omega
  have e3 : ((2 : Int) ^ (8 * i)) = ((256 ^ i : Nat) : Int) := by
    rw [Int.natCast_pow, Int.pow_mul]; rfl
  rw [e1, e2, e3, Int.fdiv_eq_ediv_of_nonneg _ (Int.natCast_nonneg _)]
  exact (Int.natCast_ediv _ _).symm

theorem word_fc (n : Nat) (hn : n < 18446744073709551616) (s : Nat) (hs : s ≤ 8) : FC Try.prog i_wire_word [.int .u64 (n : Int), .int .i64 (s : Int)] (· = .slice ((wdL n s).map encB)) := by
  (refine .of F_wire_word T_wire_word L_wire_word ?_; unfold A_wire_word; simp only [args0, List.map_cons, List.map_nil, List.zipIdx_cons, List.zipIdx_nil])
  (refine wpc_seq ?_); (refine wpc_region fun Kr hKr => ?_; simp only [go_sem, ↓reduceIte, Nat.reduceEqDiff, Nat.reduceAdd, Nat.reduceSub, Nat.reduceLeDiff, Nat.reduceMul, reduceCtorEq, Nat.reduceBEq, Int.reduceLT, Int.reduceLE, Int.reduceNeg, Int.reduceEq]; with_reducible refine hKr _ ?_; clear hKr Kr)
  have g0 : (0 : Int) ≤ (s : Int) := by omega
  have g1 : (s : Int) ≤ 140737488355328 := by omega
  (refine wpc_seq ?_); (refine wpc_region fun Kr hKr => ?_; simp only [go_sem, ↓reduceIte, Nat.reduceEqDiff, Nat.reduceAdd, Nat.reduceSub, Nat.reduceLeDiff, Nat.reduceMul, reduceCtorEq, Nat.reduceBEq, Int.reduceLT, Int.reduceLE, Int.reduceNeg, Int.reduceEq, g0, g1]; with_reducible refine hKr _ ?_; clear hKr Kr)
  (refine wpc_seq ?_); (refine wpc_seq ?_); (refine wpc_region fun Kr hKr => ?_; simp only [go_sem, ↓reduceIte, Nat.reduceEqDiff, Nat.reduceAdd, Nat.reduceSub, Nat.reduceLeDiff, Nat.reduceMul, reduceCtorEq, Nat.reduceBEq, Int.reduceLT, Int.reduceLE, Int.reduceNeg, Int.reduceEq]; with_reducible refine hKr _ ?_; clear hKr Kr)
  show wpc _ (.block 0 (.loop _)) _ _
  refine wpc_loop (fun m st => ∃ (i v : Nat), m = s - i ∧ i ≤ s ∧ st.σ = [(0, v, .list 5 1 ((wdL n i).map encB))] ∧ lk st.ρ 0 = some (.iv (.int .u64 (n : Int))) ∧ lk st.ρ 5 = some (.lst 0 v) ∧ lk st.ρ 9 = some (.iv (.int .i64 (s : Int))) ∧ lk st.ρ 10 = some (.iv (.int .i64 (i : Int)))) s
    ⟨0, 0, rfl, by omega, rfl, ?_, ?_, ?_, ?_⟩ ?_
  · simp only [go_sem, ↓reduceIte, Nat.reduceEqDiff, Nat.reduceAdd, Nat.reduceSub, Nat.reduceLeDiff, Nat.reduceMul, reduceCtorEq, Nat.reduceBEq, Int.reduceLT, Int.reduceLE, Int.reduceNeg, Int.reduceEq]
  · simp only [go_sem, ↓reduceIte, Nat.reduceEqDiff, Nat.reduceAdd, Nat.reduceSub, Nat.reduceLeDiff, Nat.reduceMul, reduceCtorEq, Nat.reduceBEq, Int.reduceLT, Int.reduceLE, Int.reduceNeg, Int.reduceEq]
  · simp only [go_sem, ↓reduceIte, Nat.reduceEqDiff, Nat.reduceAdd, Nat.reduceSub, Nat.reduceLeDiff, Nat.reduceMul, reduceCtorEq, Nat.reduceBEq, Int.reduceLT, Int.reduceLE, Int.reduceNeg, Int.reduceEq]
  · simp only [go_sem, ↓reduceIte, Nat.reduceEqDiff, Nat.reduceAdd, Nat.reduceSub, Nat.reduceLeDiff, Nat.reduceMul, reduceCtorEq, Nat.reduceBEq, Int.reduceLT, Int.reduceLE, Int.reduceNeg, Int.reduceEq]
  rintro m st ⟨i, v, rfl, hi, hσ, h0, h5, h9, h10⟩ K hK
  obtain ⟨ρ, σ⟩ := st
  simp only at hσ h0 h5 h9 h10
  subst hσ
  (refine wpc_seq ?_); (refine wpc_region fun Kr hKr => ?_; simp only [go_sem, ↓reduceIte, Nat.reduceEqDiff, Nat.reduceAdd, Nat.reduceSub, Nat.reduceLeDiff, Nat.reduceMul, reduceCtorEq, Nat.reduceBEq, Int.reduceLT, Int.reduceLE, Int.reduceNeg, Int.reduceEq, h9, h10]; with_reducible refine hKr _ ?_; clear hKr Kr)
  (refine wpc_seq ?_)
  by_cases hlt : i < s
  · (refine wpc_true (by simp only [ev, lk, Nat.reduceEqDiff, ↓reduceIte, decide_true, decide_false, Bool.not_true, Bool.not_false, Bool.true_and, Bool.false_and, Bool.and_true, Bool.and_false, Bool.or_false, Bool.false_or, Bool.true_or, Bool.or_true, Bool.and_self, Bool.or_self, Int.cast_ofNat_Int, Int.natCast_inj, Int.ofNat_lt, Int.ofNat_le, Int.natCast_nonneg, eq_self, Int.reduceLT, Int.reduceLE, Int.reduceEq, Bool.false_eq_true, if_true, if_false, reduceCtorEq, and_self, and_true, true_and, and_false, false_and, hlt]) ?_)
    (refine wpc_skip' ?_)
    (refine wpc_seq ?_)
    show wpc _ (.seq _ _) _ _
    (refine wpc_seq ?_); (refine wpc_region fun Kr hKr => ?_; simp only [go_sem, ↓reduceIte, Nat.reduceEqDiff, Nat.reduceAdd, Nat.reduceSub, Nat.reduceLeDiff, Nat.reduceMul, reduceCtorEq, Nat.reduceBEq, Int.reduceLT, Int.reduceLE, Int.reduceNeg, Int.reduceEq, h10]; with_reducible refine hKr _ ?_; clear hKr Kr)
    have hw : IntKind.i64.wrap (8 * (i : Int)) = 8 * (i : Int) := wrap_i64 (by omega) (by omega)
    have g : ¬ (8 * (i : Int) < 0) := by omega
    have hsh := shr8 n i (by omega)
    have hu := u8_mod (n / 256 ^ i)
    have hlen : (wdL n i).length + 1 ≤ 140737488355328 := by rw [wdL_len]; omega
    (refine wpc_region fun Kr hKr => ?_; simp only [go_sem, ↓reduceIte, Nat.reduceEqDiff, Nat.reduceAdd, Nat.reduceSub, Nat.reduceLeDiff, Nat.reduceMul, reduceCtorEq, Nat.reduceBEq, Int.reduceLT, Int.reduceLE, Int.reduceNeg, Int.reduceEq, h0, h5, h9, h10, hw, g, shfOp, hsh, hu, hlen]; with_reducible refine hKr _ ?_; clear hKr Kr)
    have hw1 : IntKind.i64.wrap ((i : Int) + 1) = ((i + 1 : Nat) : Int) := by rw [wrap_i64 (by omega) (by omega)]; omega
    (refine wpc_region fun Kr hKr => ?_; simp only [go_sem, ↓reduceIte, Nat.reduceEqDiff, Nat.reduceAdd, Nat.reduceSub, Nat.reduceLeDiff, Nat.reduceMul, reduceCtorEq, Nat.reduceBEq, Int.reduceLT, Int.reduceLE, Int.reduceNeg, Int.reduceEq, h10, hw1]; with_reducible refine hKr _ ?_; clear hKr Kr)
    refine hK _ (s - (i + 1)) (by omega) ⟨i + 1, v + 1, rfl, by omega, ?_, ?_, ?_, ?_, ?_⟩
    · simp only [wdL, List.map_append, List.map_cons, List.map_nil, encB_ofNat (show n / 256 ^ i % 256 < 256 by omega)]
    · simp only [go_sem, ↓reduceIte, Nat.reduceEqDiff, Nat.reduceAdd, Nat.reduceSub, Nat.reduceLeDiff, Nat.reduceMul, reduceCtorEq, Nat.reduceBEq, Int.reduceLT, Int.reduceLE, Int.reduceNeg, Int.reduceEq, h0]
    · simp only [go_sem, ↓reduceIte, Nat.reduceEqDiff, Nat.reduceAdd, Nat.reduceSub, Nat.reduceLeDiff, Nat.reduceMul, reduceCtorEq, Nat.reduceBEq, Int.reduceLT, Int.reduceLE, Int.reduceNeg, Int.reduceEq]
    · simp only [go_sem, ↓reduceIte, Nat.reduceEqDiff, Nat.reduceAdd, Nat.reduceSub, Nat.reduceLeDiff, Nat.reduceMul, reduceCtorEq, Nat.reduceBEq, Int.reduceLT, Int.reduceLE, Int.reduceNeg, Int.reduceEq, h9]
    · simp only [go_sem, ↓reduceIte, Nat.reduceEqDiff, Nat.reduceAdd, Nat.reduceSub, Nat.reduceLeDiff, Nat.reduceMul, reduceCtorEq, Nat.reduceBEq, Int.reduceLT, Int.reduceLE, Int.reduceNeg, Int.reduceEq]
  · have : i = s := by omega
    subst this
    (refine wpc_false (by simp only [ev, lk, Nat.reduceEqDiff, ↓reduceIte, decide_true, decide_false, Bool.not_true, Bool.not_false, Bool.true_and, Bool.false_and, Bool.and_true, Bool.and_false, Bool.or_false, Bool.false_or, Bool.true_or, Bool.or_true, Bool.and_self, Bool.or_self, Int.cast_ofNat_Int, Int.natCast_inj, Int.ofNat_lt, Int.ofNat_le, Int.natCast_nonneg, eq_self, Int.reduceLT, Int.reduceLE, Int.reduceEq, Bool.false_eq_true, if_true, if_false, reduceCtorEq, and_self, and_true, true_and, and_false, false_and, hlt]) ?_)
    show wpc _ (.seq _ _) _ _
    (refine wpc_seq ?_); (refine wpc_region fun Kr hKr => ?_; simp only [go_sem, ↓reduceIte, Nat.reduceEqDiff, Nat.reduceAdd, Nat.reduceSub, Nat.reduceLeDiff, Nat.reduceMul, reduceCtorEq, Nat.reduceBEq, Int.reduceLT, Int.reduceLE, Int.reduceNeg, Int.reduceEq, h5]; with_reducible refine hKr _ ?_; clear hKr Kr)
    (refine endsV (x := _) (σ' := _) (by simp only [retOf, retVals, oneOrTup, callArgs, callArgsL, evAll, ev, lk, shutAll, shut, nrm, nrm0, nrm1, upd, ↓reduceIte, Nat.reduceEqDiff, List.map_nil, List.map_cons, eq_self, if_true, if_false, reduceCtorEq, and_self, ownRes]; rfl) ?_)
    rfl

theorem putFix32_fc (n : Nat) (hn : n < 4294967296) : FC Try.prog i_wire_PutFix32 [.int .u32 (n : Int)] (· = .slice ((wdL n 4).map encB)) := by
  (refine .of F_wire_PutFix32 T_wire_PutFix32 L_wire_PutFix32 ?_; unfold A_wire_PutFix32; simp only [args0, List.map_cons, List.map_nil, List.zipIdx_cons, List.zipIdx_nil])
  (refine wpc_seq ?_); (refine wpc_region fun Kr hKr => ?_; simp only [go_sem, ↓reduceIte, Nat.reduceEqDiff, Nat.reduceAdd, Nat.reduceSub, Nat.reduceLeDiff, Nat.reduceMul, reduceCtorEq, Nat.reduceBEq, Int.reduceLT, Int.reduceLE, Int.reduceNeg, Int.reduceEq]; with_reducible refine hKr _ ?_; clear hKr Kr)
  have hw : IntKind.u64.wrap (n : Int) = (n : Int) := wrap_u64 (by omega) (by omega)
  (refine wpc_seq ?_); (refine wpc_region fun Kr hKr => ?_; simp only [go_sem, ↓reduceIte, Nat.reduceEqDiff, Nat.reduceAdd, Nat.reduceSub, Nat.reduceLeDiff, Nat.reduceMul, reduceCtorEq, Nat.reduceBEq, Int.reduceLT, Int.reduceLE, Int.reduceNeg, Int.reduceEq, hw])
  (refine wpr_callE (word_fc n (by omega) 4 (by omega)) (σ' := _) (by simp only [callArgs, callArgsL, evAll, ev, lk, shutAll, shut, nrm, nrm0, nrm1, upd, ↓reduceIte, Nat.reduceEqDiff, List.map_nil, List.map_cons, eq_self, if_true, if_false, reduceCtorEq, and_self, ownRes]; rfl) ?_; simp only [go_sem, ↓reduceIte, Nat.reduceEqDiff, Nat.reduceAdd, Nat.reduceSub, Nat.reduceLeDiff, Nat.reduceMul, reduceCtorEq, Nat.reduceBEq, Int.reduceLT, Int.reduceLE, Int.reduceNeg, Int.reduceEq])
  (with_reducible refine hKr _ ?_; clear hKr Kr)
  (refine endsV (x := _) (σ' := _) (by simp only [retOf, retVals, oneOrTup, callArgs, callArgsL, evAll, ev, lk, shutAll, shut, nrm, nrm0, nrm1, upd, ↓reduceIte, Nat.reduceEqDiff, List.map_nil, List.map_cons, eq_self, if_true, if_false, reduceCtorEq, and_self, ownRes]; rfl) ?_)
  rfl
theorem putFix64_fc (n : Nat) (hn : n < 18446744073709551616) : FC Try.prog i_wire_PutFix64 [.int .u64 (n : Int)] (· = .slice ((wdL n 8).map encB)) := by
  (refine .of F_wire_PutFix64 T_wire_PutFix64 L_wire_PutFix64 ?_; unfold A_wire_PutFix64; simp only [args0, List.map_cons, List.map_nil, List.zipIdx_cons, List.zipIdx_nil])
  (refine wpc_seq ?_); (refine wpc_region fun Kr hKr => ?_; simp only [go_sem, ↓reduceIte, Nat.reduceEqDiff, Nat.reduceAdd, Nat.reduceSub, Nat.reduceLeDiff, Nat.reduceMul, reduceCtorEq, Nat.reduceBEq, Int.reduceLT, Int.reduceLE, Int.reduceNeg, Int.reduceEq]; with_reducible refine hKr _ ?_; clear hKr Kr)
  (refine wpc_seq ?_); (refine wpc_region fun Kr hKr => ?_; simp only [go_sem, ↓reduceIte, Nat.reduceEqDiff, Nat.reduceAdd, Nat.reduceSub, Nat.reduceLeDiff, Nat.reduceMul, reduceCtorEq, Nat.reduceBEq, Int.reduceLT, Int.reduceLE, Int.reduceNeg, Int.reduceEq])
  (refine wpr_callE (word_fc n hn 8 (by omega)) (σ' := _) (by simp only [callArgs, callArgsL, evAll, ev, lk, shutAll, shut, nrm, nrm0, nrm1, upd, ↓reduceIte, Nat.reduceEqDiff, List.map_nil, List.map_cons, eq_self, if_true, if_false, reduceCtorEq, and_self, ownRes]; rfl) ?_; simp only [go_sem, ↓reduceIte, Nat.reduceEqDiff, Nat.reduceAdd, Nat.reduceSub, Nat.reduceLeDiff, Nat.reduceMul, reduceCtorEq, Nat.reduceBEq, Int.reduceLT, Int.reduceLE, Int.reduceNeg, Int.reduceEq])
  (with_reducible refine hKr _ ?_; clear hKr Kr)
  (refine endsV (x := _) (σ' := _) (by simp only [retOf, retVals, oneOrTup, callArgs, callArgsL, evAll, ev, lk, shutAll, shut, nrm, nrm0, nrm1, upd, ↓reduceIte, Nat.reduceEqDiff, List.map_nil, List.map_cons, eq_self, if_true, if_false, reduceCtorEq, and_self, ownRes]; rfl) ?_)
  rfl

theorem ref_putWord_fc (n : Nat) (hn : n < 18446744073709551616) (s : Nat) (hs : s ≤ 8) (hp : 0 < s) : FC Try.prog i_cartoucheref1_PutWord [.int .u64 (n : Int), .int .i64 (s : Int)] (· = .slice ((wdL n s).map encB)) := by
  (refine .of F_cartoucheref1_PutWord T_cartoucheref1_PutWord L_cartoucheref1_PutWord ?_; unfold A_cartoucheref1_PutWord; simp only [args0, List.map_cons, List.map_nil, List.zipIdx_cons, List.zipIdx_nil])
  (refine wpc_seq ?_); (refine wpc_region fun Kr hKr => ?_; simp only [go_sem, ↓reduceIte, Nat.reduceEqDiff, Nat.reduceAdd, Nat.reduceSub, Nat.reduceLeDiff, Nat.reduceMul, reduceCtorEq, Nat.reduceBEq, Int.reduceLT, Int.reduceLE, Int.reduceNeg, Int.reduceEq]; with_reducible refine hKr _ ?_; clear hKr Kr)
  (refine wpc_seq ?_); (refine wpc_region fun Kr hKr => ?_; simp only [go_sem, ↓reduceIte, Nat.reduceEqDiff, Nat.reduceAdd, Nat.reduceSub, Nat.reduceLeDiff, Nat.reduceMul, reduceCtorEq, Nat.reduceBEq, Int.reduceLT, Int.reduceLE, Int.reduceNeg, Int.reduceEq]; with_reducible refine hKr _ ?_; clear hKr Kr)
  (refine wpc_seq ?_); (refine wpc_seq ?_); (refine wpc_region fun Kr hKr => ?_; simp only [go_sem, ↓reduceIte, Nat.reduceEqDiff, Nat.reduceAdd, Nat.reduceSub, Nat.reduceLeDiff, Nat.reduceMul, reduceCtorEq, Nat.reduceBEq, Int.reduceLT, Int.reduceLE, Int.reduceNeg, Int.reduceEq]; with_reducible refine hKr _ ?_; clear hKr Kr)
  show wpc _ (.block 0 (.loop _)) _ _
  refine wpc_loop (fun m st => ∃ (i : Nat), m = s - i ∧ i ≤ s ∧ ((i = 0 ∧ st.σ = [] ∧ lk st.ρ 5 = some (.iv .nil)) ∨ ∃ v, st.σ = [(0, v, .list 5 1 ((wdL n i).map encB))] ∧ lk st.ρ 5 = some (.lst 0 v)) ∧ lk st.ρ 0 = some (.iv (.int .u64 (n : Int))) ∧ lk st.ρ 1 = some (.iv (.int .i64 (s : Int))) ∧ lk st.ρ 6 = some (.iv (.int .i64 (i : Int)))) s
    ⟨0, rfl, by omega, .inl ⟨rfl, rfl, ?_⟩, ?_, ?_, ?_⟩ ?_
  · simp only [go_sem, ↓reduceIte, Nat.reduceEqDiff, Nat.reduceAdd, Nat.reduceSub, Nat.reduceLeDiff, Nat.reduceMul, reduceCtorEq, Nat.reduceBEq, Int.reduceLT, Int.reduceLE, Int.reduceNeg, Int.reduceEq]
  · simp only [go_sem, ↓reduceIte, Nat.reduceEqDiff, Nat.reduceAdd, Nat.reduceSub, Nat.reduceLeDiff, Nat.reduceMul, reduceCtorEq, Nat.reduceBEq, Int.reduceLT, Int.reduceLE, Int.reduceNeg, Int.reduceEq]
  · simp only [go_sem, ↓reduceIte, Nat.reduceEqDiff, Nat.reduceAdd, Nat.reduceSub, Nat.reduceLeDiff, Nat.reduceMul, reduceCtorEq, Nat.reduceBEq, Int.reduceLT, Int.reduceLE, Int.reduceNeg, Int.reduceEq]
  · simp only [go_sem, ↓reduceIte, Nat.reduceEqDiff, Nat.reduceAdd, Nat.reduceSub, Nat.reduceLeDiff, Nat.reduceMul, reduceCtorEq, Nat.reduceBEq, Int.reduceLT, Int.reduceLE, Int.reduceNeg, Int.reduceEq]
  rintro m st ⟨i, rfl, hi, hsl, h0, h1, h6⟩ K hK
  obtain ⟨ρ, σ⟩ := st
  simp only at hsl h0 h1 h6
  (refine wpc_seq ?_); (refine wpc_seq ?_); (refine wpc_region fun Kr hKr => ?_; simp only [go_sem, ↓reduceIte, Nat.reduceEqDiff, Nat.reduceAdd, Nat.reduceSub, Nat.reduceLeDiff, Nat.reduceMul, reduceCtorEq, Nat.reduceBEq, Int.reduceLT, Int.reduceLE, Int.reduceNeg, Int.reduceEq, h1, h6]; with_reducible refine hKr _ ?_; clear hKr Kr)
  by_cases hlt : i < s
  · (refine wpc_true (by simp only [ev, lk, Nat.reduceEqDiff, ↓reduceIte, decide_true, decide_false, Bool.not_true, Bool.not_false, Bool.true_and, Bool.false_and, Bool.and_true, Bool.and_false, Bool.or_false, Bool.false_or, Bool.true_or, Bool.or_true, Bool.and_self, Bool.or_self, Int.cast_ofNat_Int, Int.natCast_inj, Int.ofNat_lt, Int.ofNat_le, Int.natCast_nonneg, eq_self, Int.reduceLT, Int.reduceLE, Int.reduceEq, Bool.false_eq_true, if_true, if_false, reduceCtorEq, and_self, and_true, true_and, and_false, false_and, hlt]) ?_)
    (refine wpc_skip' ?_)
    (refine wpc_seq ?_)
    have hw : IntKind.i64.wrap (8 * (i : Int)) = 8 * (i : Int) := wrap_i64 (by omega) (by omega)
    have hwu : IntKind.u64.wrap (8 * (i : Int)) = 8 * (i : Int) := wrap_u64 (by omega) (by omega)
    have g : ¬ (8 * (i : Int) < 0) := by omega
    have hsh := shr8 n i (by omega)
    have hu := u8_mod (n / 256 ^ i)
    have hlen : (wdL n i).length + 1 ≤ 140737488355328 := by rw [wdL_len]; omega
    have hw1 : IntKind.i64.wrap ((i : Int) + 1) = ((i + 1 : Nat) : Int) := by rw [wrap_i64 (by omega) (by omega)]; omega
    have fin : ∀ v ρ', lk ρ' 5 = some (.lst 0 v) → lk ρ' 0 = some (.iv (.int .u64 (n : Int))) → lk ρ' 1 = some (.iv (.int .i64 (s : Int))) → lk ρ' 6 = some (.iv (.int .i64 ((i + 1 : Nat) : Int))) → K { ρ := ρ', σ := [(0, v, .list 5 1 ((wdL n i).map encB ++ [.int .u8 ((n / 256 ^ i % 256 : Nat) : Int)]))] } := by
      intro v ρ' g5 g0 g1 g6
      refine hK _ (s - (i + 1)) (by omega) ⟨i + 1, rfl, by omega, .inr ⟨v, ?_, g5⟩, g0, g1, g6⟩
      simp only [wdL, List.map_append, List.map_cons, List.map_nil, encB_ofNat (show n / 256 ^ i % 256 < 256 by omega)]
    rcases hsl with ⟨rfl, rfl, h5⟩ | ⟨v, rfl, h5⟩
    · have hsh' : Int.fdiv (n : Int) (2 ^ (min ((8 * ((0 : Nat) : Int)).toNat) IntKind.u64.bits)) = ((n / 256 ^ 0 : Nat) : Int) := hsh
      simp only [Int.cast_ofNat_Int] at hw hwu g hsh' hw1 h6
      (refine wpc_region fun Kr hKr => ?_; simp only [go_sem, ↓reduceIte, Nat.reduceEqDiff, Nat.reduceAdd, Nat.reduceSub, Nat.reduceLeDiff, Nat.reduceMul, reduceCtorEq, Nat.reduceBEq, Int.reduceLT, Int.reduceLE, Int.reduceNeg, Int.reduceEq, h0, h5, h6, hw, hwu, g, shfOp, hsh', hu]; with_reducible refine hKr _ ?_; clear hKr Kr)
      (refine wpc_region fun Kr hKr => ?_; simp only [go_sem, ↓reduceIte, Nat.reduceEqDiff, Nat.reduceAdd, Nat.reduceSub, Nat.reduceLeDiff, Nat.reduceMul, reduceCtorEq, Nat.reduceBEq, Int.reduceLT, Int.reduceLE, Int.reduceNeg, Int.reduceEq, h6, hw1]; with_reducible refine hKr _ ?_; clear hKr Kr)
      exact fin _ _ (by simp only [go_sem, ↓reduceIte, Nat.reduceEqDiff, Nat.reduceAdd, Nat.reduceSub, Nat.reduceLeDiff, Nat.reduceMul, reduceCtorEq, Nat.reduceBEq, Int.reduceLT, Int.reduceLE, Int.reduceNeg, Int.reduceEq]) (by simp only [go_sem, ↓reduceIte, Nat.reduceEqDiff, Nat.reduceAdd, Nat.reduceSub, Nat.reduceLeDiff, Nat.reduceMul, reduceCtorEq, Nat.reduceBEq, Int.reduceLT, Int.reduceLE, Int.reduceNeg, Int.reduceEq, h0]) (by simp only [go_sem, ↓reduceIte, Nat.reduceEqDiff, Nat.reduceAdd, Nat.reduceSub, Nat.reduceLeDiff, Nat.reduceMul, reduceCtorEq, Nat.reduceBEq, Int.reduceLT, Int.reduceLE, Int.reduceNeg, Int.reduceEq, h1]) (by simp only [go_sem, ↓reduceIte, Nat.reduceEqDiff, Nat.reduceAdd, Nat.reduceSub, Nat.reduceLeDiff, Nat.reduceMul, reduceCtorEq, Nat.reduceBEq, Int.reduceLT, Int.reduceLE, Int.reduceNeg, Int.reduceEq])
    · (refine wpc_region fun Kr hKr => ?_; simp only [go_sem, ↓reduceIte, Nat.reduceEqDiff, Nat.reduceAdd, Nat.reduceSub, Nat.reduceLeDiff, Nat.reduceMul, reduceCtorEq, Nat.reduceBEq, Int.reduceLT, Int.reduceLE, Int.reduceNeg, Int.reduceEq, h0, h5, h6, hw, hwu, g, shfOp, hsh, hu, hlen]; with_reducible refine hKr _ ?_; clear hKr Kr)
      (refine wpc_region fun Kr hKr => ?_; simp only [go_sem, ↓reduceIte, Nat.reduceEqDiff, Nat.reduceAdd, Nat.reduceSub, Nat.reduceLeDiff, Nat.reduceMul, reduceCtorEq, Nat.reduceBEq, Int.reduceLT, Int.reduceLE, Int.reduceNeg, Int.reduceEq, h6, hw1]; with_reducible refine hKr _ ?_; clear hKr Kr)
      exact fin _ _ (by simp only [go_sem, ↓reduceIte, Nat.reduceEqDiff, Nat.reduceAdd, Nat.reduceSub, Nat.reduceLeDiff, Nat.reduceMul, reduceCtorEq, Nat.reduceBEq, Int.reduceLT, Int.reduceLE, Int.reduceNeg, Int.reduceEq]) (by simp only [go_sem, ↓reduceIte, Nat.reduceEqDiff, Nat.reduceAdd, Nat.reduceSub, Nat.reduceLeDiff, Nat.reduceMul, reduceCtorEq, Nat.reduceBEq, Int.reduceLT, Int.reduceLE, Int.reduceNeg, Int.reduceEq, h0]) (by simp only [go_sem, ↓reduceIte, Nat.reduceEqDiff, Nat.reduceAdd, Nat.reduceSub, Nat.reduceLeDiff, Nat.reduceMul, reduceCtorEq, Nat.reduceBEq, Int.reduceLT, Int.reduceLE, Int.reduceNeg, Int.reduceEq, h1]) (by simp only [go_sem, ↓reduceIte, Nat.reduceEqDiff, Nat.reduceAdd, Nat.reduceSub, Nat.reduceLeDiff, Nat.reduceMul, reduceCtorEq, Nat.reduceBEq, Int.reduceLT, Int.reduceLE, Int.reduceNeg, Int.reduceEq])
  · have : i = s := by omega
    subst this
    (refine wpc_false (by simp only [ev, lk, Nat.reduceEqDiff, ↓reduceIte, decide_true, decide_false, Bool.not_true, Bool.not_false, Bool.true_and, Bool.false_and, Bool.and_true, Bool.and_false, Bool.or_false, Bool.false_or, Bool.true_or, Bool.or_true, Bool.and_self, Bool.or_self, Int.cast_ofNat_Int, Int.natCast_inj, Int.ofNat_lt, Int.ofNat_le, Int.natCast_nonneg, eq_self, Int.reduceLT, Int.reduceLE, Int.reduceEq, Bool.false_eq_true, if_true, if_false, reduceCtorEq, and_self, and_true, true_and, and_false, false_and, hlt]) ?_)
    show wpc _ (.seq _ _) _ _
    rcases hsl with ⟨rfl, rfl, h5⟩ | ⟨v, rfl, h5⟩
    · omega
    · (refine wpc_seq ?_); (refine wpc_region fun Kr hKr => ?_; simp only [go_sem, ↓reduceIte, Nat.reduceEqDiff, Nat.reduceAdd, Nat.reduceSub, Nat.reduceLeDiff, Nat.reduceMul, reduceCtorEq, Nat.reduceBEq, Int.reduceLT, Int.reduceLE, Int.reduceNeg, Int.reduceEq, h5]; with_reducible refine hKr _ ?_; clear hKr Kr)
      (refine endsV (x := _) (σ' := _) (by simp only [retOf, retVals, oneOrTup, callArgs, callArgsL, evAll, ev, lk, shutAll, shut, nrm, nrm0, nrm1, upd, ↓reduceIte, Nat.reduceEqDiff, List.map_nil, List.map_cons, eq_self, if_true, if_false, reduceCtorEq, and_self, ownRes]; rfl) ?_)
      rfl

/-! ### chunks -/
def pcL (bs : List UInt8) : List UInt8 := pvL bs.length ++ bs
theorem putChunk_fc (bs : List UInt8) (hb : bs.length ≤ 140737488351232) : FC Try.prog i_wire_PutChunk [.slice (bs.map encB)] (· = .slice ((pcL bs).map encB)) := by
  (refine .of F_wire_PutChunk T_wire_PutChunk L_wire_PutChunk ?_; unfold A_wire_PutChunk; simp only [args0, List.map_cons, List.map_nil, List.zipIdx_cons, List.zipIdx_nil])
  (refine wpc_seq ?_); (refine wpc_region fun Kr hKr => ?_; simp only [go_sem, ↓reduceIte, Nat.reduceEqDiff, Nat.reduceAdd, Nat.reduceSub, Nat.reduceLeDiff, Nat.reduceMul, reduceCtorEq, Nat.reduceBEq, Int.reduceLT, Int.reduceLE, Int.reduceNeg, Int.reduceEq]; with_reducible refine hKr _ ?_; clear hKr Kr)
  have hw : IntKind.u64.wrap (bs.length : Int) = (bs.length : Int) := wrap_u64 (by omega) (by omega)
  (refine wpc_seq ?_); (refine wpc_region fun Kr hKr => ?_; simp only [go_sem, ↓reduceIte, Nat.reduceEqDiff, Nat.reduceAdd, Nat.reduceSub, Nat.reduceLeDiff, Nat.reduceMul, reduceCtorEq, Nat.reduceBEq, Int.reduceLT, Int.reduceLE, Int.reduceNeg, Int.reduceEq, hw]; with_reducible refine hKr _ ?_; clear hKr Kr)
  have hl := pvL_len10 (n := bs.length) (by omega)
  have hw2 : IntKind.i64.wrap (((pvL bs.length).length : Int) + (bs.length : Int)) = (((pvL bs.length).length + bs.length : Nat) : Int) := by rw [wrap_i64 (by omega) (by omega)]; omega
  have h0 : (0 : Int) ≤ (((pvL bs.length).length + bs.length : Nat) : Int) := by omega
  have h1 : (((pvL bs.length).length + bs.length : Nat) : Int) ≤ 140737488355328 := by omega
  (refine wpc_seq ?_); (refine wpc_region fun Kr hKr => ?_; simp only [go_sem, ↓reduceIte, Nat.reduceEqDiff, Nat.reduceAdd, Nat.reduceSub, Nat.reduceLeDiff, Nat.reduceMul, reduceCtorEq, Nat.reduceBEq, Int.reduceLT, Int.reduceLE, Int.reduceNeg, Int.reduceEq, hw])
  (refine wpr_callE (size_fc bs.length (by omega)) (σ' := _) (by simp only [callArgs, callArgsL, evAll, ev, lk, shutAll, shut, nrm, nrm0, nrm1, upd, ↓reduceIte, Nat.reduceEqDiff, List.map_nil, List.map_cons, eq_self, if_true, if_false, reduceCtorEq, and_self, ownRes, hw2, h0, h1]; rfl) ?_; simp only [go_sem, ↓reduceIte, Nat.reduceEqDiff, Nat.reduceAdd, Nat.reduceSub, Nat.reduceLeDiff, Nat.reduceMul, reduceCtorEq, Nat.reduceBEq, Int.reduceLT, Int.reduceLE, Int.reduceNeg, Int.reduceEq, hw2, h0, h1])
  have h2 : (pvL bs.length).length + bs.length ≤ 140737488355328 := by omega
  (refine wpr_callL (varint_lc 5 rfl [] bs.length (by omega) (by simp)) (by simp only [callArgs, callArgsL, evAll, ev, lk, shutAll, shut, nrm, nrm0, nrm1, upd, ↓reduceIte, Nat.reduceEqDiff, List.map_nil, List.map_cons, eq_self, if_true, if_false, reduceCtorEq, and_self, ownRes, oneSize_bytes, h2]; rfl) ?_; simp only [go_sem, ↓reduceIte, Nat.reduceEqDiff, Nat.reduceAdd, Nat.reduceSub, Nat.reduceLeDiff, Nat.reduceMul, reduceCtorEq, Nat.reduceBEq, Int.reduceLT, Int.reduceLE, Int.reduceNeg, Int.reduceEq, oneSize_bytes, h2])
  (with_reducible refine hKr _ ?_; clear hKr Kr)
  (refine endsV (x := _) (σ' := _) (by simp only [retOf, retVals, oneOrTup, callArgs, callArgsL, evAll, ev, lk, shutAll, shut, nrm, nrm0, nrm1, upd, ↓reduceIte, Nat.reduceEqDiff, List.map_nil, List.map_cons, eq_self, if_true, if_false, reduceCtorEq, and_self, ownRes]; rfl) ?_)
  simp only [pcL, List.map_append]

theorem ref_putChunk_fc (bs : List UInt8) (hb : bs.length ≤ 140737488351232) : FC Try.prog i_cartoucheref1_PutChunk [.slice (bs.map encB)] (· = .slice ((pcL bs).map encB)) := by
  (refine .of F_cartoucheref1_PutChunk T_cartoucheref1_PutChunk L_cartoucheref1_PutChunk ?_; unfold A_cartoucheref1_PutChunk; simp only [args0, List.map_cons, List.map_nil, List.zipIdx_cons, List.zipIdx_nil])
  (refine wpc_seq ?_); (refine wpc_region fun Kr hKr => ?_; simp only [go_sem, ↓reduceIte, Nat.reduceEqDiff, Nat.reduceAdd, Nat.reduceSub, Nat.reduceLeDiff, Nat.reduceMul, reduceCtorEq, Nat.reduceBEq, Int.reduceLT, Int.reduceLE, Int.reduceNeg, Int.reduceEq]; with_reducible refine hKr _ ?_; clear hKr Kr)
  have hw : IntKind.u64.wrap (bs.length : Int) = (bs.length : Int) := wrap_u64 (by omega) (by omega)
  have hl := pvL_len10 (n := bs.length) (by omega)
  have h2 : (pvL bs.length).length + bs.length ≤ 140737488355328 := by omega
  (refine wpc_seq ?_); (refine wpc_region fun Kr hKr => ?_; simp only [go_sem, ↓reduceIte, Nat.reduceEqDiff, Nat.reduceAdd, Nat.reduceSub, Nat.reduceLeDiff, Nat.reduceMul, reduceCtorEq, Nat.reduceBEq, Int.reduceLT, Int.reduceLE, Int.reduceNeg, Int.reduceEq, hw])
  (refine wpr_callO 0 (ref_putVarint_oc bs.length (by omega)) (σ1 := _) (by simp only [callArgs, callArgsL, evAll, ev, lk, shutAll, shut, nrm, nrm0, nrm1, upd, ↓reduceIte, Nat.reduceEqDiff, List.map_nil, List.map_cons, eq_self, if_true, if_false, reduceCtorEq, and_self, ownRes, oneSize_bytes, h2]; rfl) ?_; simp only [go_sem, ↓reduceIte, Nat.reduceEqDiff, Nat.reduceAdd, Nat.reduceSub, Nat.reduceLeDiff, Nat.reduceMul, reduceCtorEq, Nat.reduceBEq, Int.reduceLT, Int.reduceLE, Int.reduceNeg, Int.reduceEq, oneSize_bytes, h2])
  (with_reducible refine hKr _ ?_; clear hKr Kr)
  (refine endsV (x := _) (σ' := _) (by simp only [retOf, retVals, oneOrTup, callArgs, callArgsL, evAll, ev, lk, shutAll, shut, nrm, nrm0, nrm1, upd, ↓reduceIte, Nat.reduceEqDiff, List.map_nil, List.map_cons, eq_self, if_true, if_false, reduceCtorEq, and_self, ownRes]; rfl) ?_)
  simp only [pcL, List.map_append]

/-- Where a chunk's bytes stand. -/
def spT (g : Nat × Nat × Nat) (len : Nat) : Nat × Nat × Nat := if g.2.2 = 0 then (if len - g.2.1 < g.1 then (0, 0, 3) else (g.2.1, g.2.1 + g.1, 0)) else (0, 0, g.2.2)
def spAt (bs : List UInt8) (k : Int) : Nat × Nat × Nat := spT (gvAt bs k) bs.length
def encSP (r : Nat × Nat × Nat) : IV := .tup [.int .i64 r.1, .int .i64 r.2.1, .int .i64 r.2.2]

theorem span_fc (bs : List UInt8) (k : Int) (hb : bs.length < 4611686018427387904) : FC Try.prog i_wire_Span [.slice (bs.map encB), .int .i64 k] (· = encSP (spAt bs k)) := by
  (refine .of F_wire_Span T_wire_Span L_wire_Span ?_; unfold A_wire_Span; simp only [args0, List.map_cons, List.map_nil, List.zipIdx_cons, List.zipIdx_nil])
  (refine wpc_seq ?_); (refine wpc_region fun Kr hKr => ?_; simp only [go_sem, ↓reduceIte, Nat.reduceEqDiff, Nat.reduceAdd, Nat.reduceSub, Nat.reduceLeDiff, Nat.reduceMul, reduceCtorEq, Nat.reduceBEq, Int.reduceLT, Int.reduceLE, Int.reduceNeg, Int.reduceEq]; with_reducible refine hKr _ ?_; clear hKr Kr)
  (refine wpc_seq ?_); (refine wpc_region fun Kr hKr => ?_; simp only [go_sem, ↓reduceIte, Nat.reduceEqDiff, Nat.reduceAdd, Nat.reduceSub, Nat.reduceLeDiff, Nat.reduceMul, reduceCtorEq, Nat.reduceBEq, Int.reduceLT, Int.reduceLE, Int.reduceNeg, Int.reduceEq])
  (refine wpr_callE (getVarint_fc bs k hb) (σ' := _) (by simp only [callArgs, callArgsL, evAll, ev, lk, shutAll, shut, nrm, nrm0, nrm1, upd, ↓reduceIte, Nat.reduceEqDiff, List.map_nil, List.map_cons, eq_self, if_true, if_false, reduceCtorEq, and_self, ownRes, encGV]; rfl) ?_; simp only [go_sem, ↓reduceIte, Nat.reduceEqDiff, Nat.reduceAdd, Nat.reduceSub, Nat.reduceLeDiff, Nat.reduceMul, reduceCtorEq, Nat.reduceBEq, Int.reduceLT, Int.reduceLE, Int.reduceNeg, Int.reduceEq, encGV])
  (with_reducible refine hKr _ ?_; clear hKr Kr)
  have hlt := gvAt_lt bs k
  have hnx := fun n p => @gvAt_next bs k n p
  unfold spAt
  generalize gvAt bs k = g at hlt hnx
  obtain ⟨n, p, e⟩ := g
  simp only at hlt
  (refine wpc_seq ?_)
  show wpc _ (.seq _ _) _ _
  (refine wpc_seq ?_); (refine wpc_region fun Kr hKr => ?_; simp only [go_sem, ↓reduceIte, Nat.reduceEqDiff, Nat.reduceAdd, Nat.reduceSub, Nat.reduceLeDiff, Nat.reduceMul, reduceCtorEq, Nat.reduceBEq, Int.reduceLT, Int.reduceLE, Int.reduceNeg, Int.reduceEq]; with_reducible refine hKr _ ?_; clear hKr Kr)
  by_cases he : e = 0
  · subst he
    obtain ⟨_, _, hp⟩ := hnx n p rfl
    have w1 : IntKind.i64.wrap ((bs.length : Int) - (p : Int)) = ((bs.length - p : Nat) : Int) := by rw [wrap_i64 (by omega) (by omega)]; omega
    have w2 : IntKind.u64.wrap ((bs.length - p : Nat) : Int) = ((bs.length - p : Nat) : Int) := wrap_u64 (by omega) (by omega)
    (refine wpc_false (by simp only [ev, lk, Nat.reduceEqDiff, ↓reduceIte, decide_true, decide_false, Bool.not_true, Bool.not_false, Bool.true_and, Bool.false_and, Bool.and_true, Bool.and_false, Bool.or_false, Bool.false_or, Bool.true_or, Bool.or_true, Bool.and_self, Bool.or_self, Int.cast_ofNat_Int, Int.natCast_inj, Int.ofNat_lt, Int.ofNat_le, Int.natCast_nonneg, eq_self, Int.reduceLT, Int.reduceLE, Int.reduceEq, Bool.false_eq_true, if_true, if_false, reduceCtorEq, and_self, and_true, true_and, and_false, false_and]) ?_)
    (refine wpc_seq ?_); (refine wpc_region fun Kr hKr => ?_; simp only [go_sem, ↓reduceIte, Nat.reduceEqDiff, Nat.reduceAdd, Nat.reduceSub, Nat.reduceLeDiff, Nat.reduceMul, reduceCtorEq, Nat.reduceBEq, Int.reduceLT, Int.reduceLE, Int.reduceNeg, Int.reduceEq, w1, w2]; with_reducible refine hKr _ ?_; clear hKr Kr)
    by_cases hn : bs.length - p < n
    · (refine wpc_true (by simp only [ev, lk, Nat.reduceEqDiff, ↓reduceIte, decide_true, decide_false, Bool.not_true, Bool.not_false, Bool.true_and, Bool.false_and, Bool.and_true, Bool.and_false, Bool.or_false, Bool.false_or, Bool.true_or, Bool.or_true, Bool.and_self, Bool.or_self, Int.cast_ofNat_Int, Int.natCast_inj, Int.ofNat_lt, Int.ofNat_le, Int.natCast_nonneg, eq_self, Int.reduceLT, Int.reduceLE, Int.reduceEq, Bool.false_eq_true, if_true, if_false, reduceCtorEq, and_self, and_true, true_and, and_false, false_and, hn]) ?_)
      (refine wpc_seq ?_); (refine wpc_region fun Kr hKr => ?_; simp only [go_sem, ↓reduceIte, Nat.reduceEqDiff, Nat.reduceAdd, Nat.reduceSub, Nat.reduceLeDiff, Nat.reduceMul, reduceCtorEq, Nat.reduceBEq, Int.reduceLT, Int.reduceLE, Int.reduceNeg, Int.reduceEq]; with_reducible refine hKr _ ?_; clear hKr Kr)
      (refine endsV (x := _) (σ' := _) (by simp only [retOf, retVals, oneOrTup, callArgs, callArgsL, evAll, ev, lk, shutAll, shut, nrm, nrm0, nrm1, upd, ↓reduceIte, Nat.reduceEqDiff, List.map_nil, List.map_cons, eq_self, if_true, if_false, reduceCtorEq, and_self, ownRes]; rfl) ?_)
      simp only [spT, if_true, if_pos hn]; rfl
    · (refine wpc_false (by simp only [ev, lk, Nat.reduceEqDiff, ↓reduceIte, decide_true, decide_false, Bool.not_true, Bool.not_false, Bool.true_and, Bool.false_and, Bool.and_true, Bool.and_false, Bool.or_false, Bool.false_or, Bool.true_or, Bool.or_true, Bool.and_self, Bool.or_self, Int.cast_ofNat_Int, Int.natCast_inj, Int.ofNat_lt, Int.ofNat_le, Int.natCast_nonneg, eq_self, Int.reduceLT, Int.reduceLE, Int.reduceEq, Bool.false_eq_true, if_true, if_false, reduceCtorEq, and_self, and_true, true_and, and_false, false_and, hn]) ?_)
      (refine wpc_skip' ?_)
      show wpc _ (.seq _ _) _ _
      have w3 : IntKind.i64.wrap (n : Int) = (n : Int) := wrap_i64 (by omega) (by omega)
      have w4 : IntKind.i64.wrap ((p : Int) + (n : Int)) = ((p + n : Nat) : Int) := by rw [wrap_i64 (by omega) (by omega)]; omega
      (refine wpc_seq ?_); (refine wpc_region fun Kr hKr => ?_; simp only [go_sem, ↓reduceIte, Nat.reduceEqDiff, Nat.reduceAdd, Nat.reduceSub, Nat.reduceLeDiff, Nat.reduceMul, reduceCtorEq, Nat.reduceBEq, Int.reduceLT, Int.reduceLE, Int.reduceNeg, Int.reduceEq, w3, w4]; with_reducible refine hKr _ ?_; clear hKr Kr)
      (refine endsV (x := _) (σ' := _) (by simp only [retOf, retVals, oneOrTup, callArgs, callArgsL, evAll, ev, lk, shutAll, shut, nrm, nrm0, nrm1, upd, ↓reduceIte, Nat.reduceEqDiff, List.map_nil, List.map_cons, eq_self, if_true, if_false, reduceCtorEq, and_self, ownRes]; rfl) ?_)
      simp only [spT, if_true, if_neg hn]; rfl
  · have he' : ¬ ((e : Int) = 0) := by omega
    (refine wpc_true (by simp only [ev, lk, Nat.reduceEqDiff, ↓reduceIte, decide_true, decide_false, Bool.not_true, Bool.not_false, Bool.true_and, Bool.false_and, Bool.and_true, Bool.and_false, Bool.or_false, Bool.false_or, Bool.true_or, Bool.or_true, Bool.and_self, Bool.or_self, Int.cast_ofNat_Int, Int.natCast_inj, Int.ofNat_lt, Int.ofNat_le, Int.natCast_nonneg, eq_self, Int.reduceLT, Int.reduceLE, Int.reduceEq, Bool.false_eq_true, if_true, if_false, reduceCtorEq, and_self, and_true, true_and, and_false, false_and, he']) ?_)
    (refine wpc_seq ?_); (refine wpc_region fun Kr hKr => ?_; simp only [go_sem, ↓reduceIte, Nat.reduceEqDiff, Nat.reduceAdd, Nat.reduceSub, Nat.reduceLeDiff, Nat.reduceMul, reduceCtorEq, Nat.reduceBEq, Int.reduceLT, Int.reduceLE, Int.reduceNeg, Int.reduceEq]; with_reducible refine hKr _ ?_; clear hKr Kr)
    (refine endsV (x := _) (σ' := _) (by simp only [retOf, retVals, oneOrTup, callArgs, callArgsL, evAll, ev, lk, shutAll, shut, nrm, nrm0, nrm1, upd, ↓reduceIte, Nat.reduceEqDiff, List.map_nil, List.map_cons, eq_self, if_true, if_false, reduceCtorEq, and_self, ownRes]; rfl) ?_)
    simp only [spT, if_neg he]; rfl

def gcT (bs : List UInt8) (g : Nat × Nat × Nat) : List UInt8 × Nat × Nat := if g.2.2 = 0 then ((bs.drop g.1).take (g.2.1 - g.1), g.2.1, 0) else ([], 0, g.2.2)
def gcAt (bs : List UInt8) (k : Int) : List UInt8 × Nat × Nat := gcT bs (spAt bs k)
def encGC (r : List UInt8 × Nat × Nat) : IV := .tup [.slice (r.1.map encB), .int .i64 r.2.1, .int .i64 r.2.2]
theorem spAt_ok {bs : List UInt8} {k : Int} {p q : Nat} (h : spAt bs k = (p, q, 0)) : 0 ≤ k ∧ k < p ∧ p ≤ q ∧ q ≤ bs.length := by
  unfold spAt spT at h
  generalize hg : gvAt bs k = g at h
  obtain ⟨n, p', e⟩ := g
  simp only at h
  split at h
  · rename_i he
    subst he
    have := gvAt_next hg
    split at h
    · simp at h
    · simp at h; omega
  · rename_i he; simp at h; omega

theorem getChunk_fc (bs : List UInt8) (k : Int) (hb : bs.length ≤ 140737488351232) : FC Try.prog i_wire_GetChunk [.slice (bs.map encB), .int .i64 k] (· = encGC (gcAt bs k)) := by
  (refine .of F_wire_GetChunk T_wire_GetChunk L_wire_GetChunk ?_; unfold A_wire_GetChunk; simp only [args0, List.map_cons, List.map_nil, List.zipIdx_cons, List.zipIdx_nil])
  (refine wpc_seq ?_); (refine wpc_region fun Kr hKr => ?_; simp only [go_sem, ↓reduceIte, Nat.reduceEqDiff, Nat.reduceAdd, Nat.reduceSub, Nat.reduceLeDiff, Nat.reduceMul, reduceCtorEq, Nat.reduceBEq, Int.reduceLT, Int.reduceLE, Int.reduceNeg, Int.reduceEq]; with_reducible refine hKr _ ?_; clear hKr Kr)
  (refine wpc_seq ?_); (refine wpc_region fun Kr hKr => ?_; simp only [go_sem, ↓reduceIte, Nat.reduceEqDiff, Nat.reduceAdd, Nat.reduceSub, Nat.reduceLeDiff, Nat.reduceMul, reduceCtorEq, Nat.reduceBEq, Int.reduceLT, Int.reduceLE, Int.reduceNeg, Int.reduceEq])
  (refine wpr_callE (span_fc bs k (by omega)) (σ' := _) (by simp only [callArgs, callArgsL, evAll, ev, lk, shutAll, shut, nrm, nrm0, nrm1, upd, ↓reduceIte, Nat.reduceEqDiff, List.map_nil, List.map_cons, eq_self, if_true, if_false, reduceCtorEq, and_self, ownRes, encSP]; rfl) ?_; simp only [go_sem, ↓reduceIte, Nat.reduceEqDiff, Nat.reduceAdd, Nat.reduceSub, Nat.reduceLeDiff, Nat.reduceMul, reduceCtorEq, Nat.reduceBEq, Int.reduceLT, Int.reduceLE, Int.reduceNeg, Int.reduceEq, encSP])
  (with_reducible refine hKr _ ?_; clear hKr Kr)
  have hnx := fun n p => @spAt_ok bs k n p
  unfold gcAt
  generalize spAt bs k = g at hnx
  obtain ⟨p, q, e⟩ := g
  (refine wpc_seq ?_); (refine wpc_seq ?_); (refine wpc_region fun Kr hKr => ?_; simp only [go_sem, ↓reduceIte, Nat.reduceEqDiff, Nat.reduceAdd, Nat.reduceSub, Nat.reduceLeDiff, Nat.reduceMul, reduceCtorEq, Nat.reduceBEq, Int.reduceLT, Int.reduceLE, Int.reduceNeg, Int.reduceEq]; with_reducible refine hKr _ ?_; clear hKr Kr)
  by_cases he : e = 0
  · subst he
    obtain ⟨_, _, hp, hq⟩ := hnx p q rfl
    (refine wpc_false (by simp only [ev, lk, Nat.reduceEqDiff, ↓reduceIte, decide_true, decide_false, Bool.not_true, Bool.not_false, Bool.true_and, Bool.false_and, Bool.and_true, Bool.and_false, Bool.or_false, Bool.false_or, Bool.true_or, Bool.or_true, Bool.and_self, Bool.or_self, Int.cast_ofNat_Int, Int.natCast_inj, Int.ofNat_lt, Int.ofNat_le, Int.natCast_nonneg, eq_self, Int.reduceLT, Int.reduceLE, Int.reduceEq, Bool.false_eq_true, if_true, if_false, reduceCtorEq, and_self, and_true, true_and, and_false, false_and]) ?_)
    (refine wpc_skip' ?_)
    have w1 : IntKind.i64.wrap ((q : Int) - (p : Int)) = ((q - p : Nat) : Int) := by rw [wrap_i64 (by omega) (by omega)]; omega
    have h0 : (0 : Int) ≤ ((q - p : Nat) : Int) := by omega
    have h1 : ((q - p : Nat) : Int) ≤ 140737488355328 := by omega
    have hc : cutAt bs.length (some (p : Int)) (some (q : Int)) none = some (p, q) := by
      unfold cutAt
      simp only [Option.getD_some, Option.getD_none]
      rw [if_pos ⟨by omega, by omega, by omega, by omega⟩]; simp
    have hcut : cut (bs.map encB) p q = ((bs.drop p).take (q - p)).map encB := by simp only [cut, List.map_take, List.map_drop]
    have hl : ((bs.drop p).take (q - p)).length ≤ 140737488355328 := by simp; omega
    (refine wpc_seq ?_); (refine wpc_draw fun Kr hKr => ?_; simp only [go_sem, ↓reduceIte, Nat.reduceEqDiff, Nat.reduceAdd, Nat.reduceSub, Nat.reduceLeDiff, Nat.reduceMul, reduceCtorEq, Nat.reduceBEq, Int.reduceLT, Int.reduceLE, Int.reduceNeg, Int.reduceEq, w1, h0, h1, oneSize_bytes, hc, hcut, hl, Nat.zero_add]; with_reducible refine hKr _ ?_; clear hKr Kr)
    (refine endsV (x := _) (σ' := _) (by simp only [retOf, retVals, oneOrTup, callArgs, callArgsL, evAll, ev, lk, shutAll, shut, nrm, nrm0, nrm1, upd, ↓reduceIte, Nat.reduceEqDiff, List.map_nil, List.map_cons, eq_self, if_true, if_false, reduceCtorEq, and_self, ownRes]; rfl) ?_)
    simp only [gcT, if_true]; rfl
  · have he' : ¬ ((e : Int) = 0) := by omega
    (refine wpc_true (by simp only [ev, lk, Nat.reduceEqDiff, ↓reduceIte, decide_true, decide_false, Bool.not_true, Bool.not_false, Bool.true_and, Bool.false_and, Bool.and_true, Bool.and_false, Bool.or_false, Bool.false_or, Bool.true_or, Bool.or_true, Bool.and_self, Bool.or_self, Int.cast_ofNat_Int, Int.natCast_inj, Int.ofNat_lt, Int.ofNat_le, Int.natCast_nonneg, eq_self, Int.reduceLT, Int.reduceLE, Int.reduceEq, Bool.false_eq_true, if_true, if_false, reduceCtorEq, and_self, and_true, true_and, and_false, false_and, he']) ?_)
    (refine wpc_seq ?_); (refine wpc_region fun Kr hKr => ?_; simp only [go_sem, ↓reduceIte, Nat.reduceEqDiff, Nat.reduceAdd, Nat.reduceSub, Nat.reduceLeDiff, Nat.reduceMul, reduceCtorEq, Nat.reduceBEq, Int.reduceLT, Int.reduceLE, Int.reduceNeg, Int.reduceEq]; with_reducible refine hKr _ ?_; clear hKr Kr)
    (refine endsV (x := _) (σ' := _) (by simp only [retOf, retVals, oneOrTup, callArgs, callArgsL, evAll, ev, lk, shutAll, shut, nrm, nrm0, nrm1, upd, ↓reduceIte, Nat.reduceEqDiff, List.map_nil, List.map_cons, eq_self, if_true, if_false, reduceCtorEq, and_self, ownRes]; rfl) ?_)
    simp only [gcT, if_neg he]; rfl

theorem ref_getChunk_fc (bs : List UInt8) (a : Nat) (ha : a ≤ bs.length) (hb : bs.length ≤ 140737488351232) : FC Try.prog i_cartoucheref1_GetChunk [.slice (bs.map encB), .int .i64 (a : Int)] (· = encGC (gcAt bs a)) := by
  (refine .of F_cartoucheref1_GetChunk T_cartoucheref1_GetChunk L_cartoucheref1_GetChunk ?_; unfold A_cartoucheref1_GetChunk; simp only [args0, List.map_cons, List.map_nil, List.zipIdx_cons, List.zipIdx_nil])
  (refine wpc_seq ?_); (refine wpc_region fun Kr hKr => ?_; simp only [go_sem, ↓reduceIte, Nat.reduceEqDiff, Nat.reduceAdd, Nat.reduceSub, Nat.reduceLeDiff, Nat.reduceMul, reduceCtorEq, Nat.reduceBEq, Int.reduceLT, Int.reduceLE, Int.reduceNeg, Int.reduceEq]; with_reducible refine hKr _ ?_; clear hKr Kr)
  (refine wpc_seq ?_); (refine wpc_region fun Kr hKr => ?_; simp only [go_sem, ↓reduceIte, Nat.reduceEqDiff, Nat.reduceAdd, Nat.reduceSub, Nat.reduceLeDiff, Nat.reduceMul, reduceCtorEq, Nat.reduceBEq, Int.reduceLT, Int.reduceLE, Int.reduceNeg, Int.reduceEq])
  (refine wpr_callE (ref_getVarint_fc bs a ha (by omega)) (σ' := _) (by simp only [callArgs, callArgsL, evAll, ev, lk, shutAll, shut, nrm, nrm0, nrm1, upd, ↓reduceIte, Nat.reduceEqDiff, List.map_nil, List.map_cons, eq_self, if_true, if_false, reduceCtorEq, and_self, ownRes, encGV]; rfl) ?_; simp only [go_sem, ↓reduceIte, Nat.reduceEqDiff, Nat.reduceAdd, Nat.reduceSub, Nat.reduceLeDiff, Nat.reduceMul, reduceCtorEq, Nat.reduceBEq, Int.reduceLT, Int.reduceLE, Int.reduceNeg, Int.reduceEq, encGV])
  (with_reducible refine hKr _ ?_; clear hKr Kr)
  have hlt := gvAt_lt bs a
  have hnx := fun n p => @gvAt_next bs a n p
  unfold gcAt spAt
  generalize gvAt bs a = g at hlt hnx
  obtain ⟨n, p, e⟩ := g
  simp only at hlt
  (refine wpc_seq ?_); (refine wpc_seq ?_); (refine wpc_region fun Kr hKr => ?_; simp only [go_sem, ↓reduceIte, Nat.reduceEqDiff, Nat.reduceAdd, Nat.reduceSub, Nat.reduceLeDiff, Nat.reduceMul, reduceCtorEq, Nat.reduceBEq, Int.reduceLT, Int.reduceLE, Int.reduceNeg, Int.reduceEq]; with_reducible refine hKr _ ?_; clear hKr Kr)
  by_cases he : e = 0
  · subst he
    obtain ⟨_, _, hp⟩ := hnx n p rfl
    have w1 : IntKind.i64.wrap ((bs.length : Int) - (p : Int)) = ((bs.length - p : Nat) : Int) := by rw [wrap_i64 (by omega) (by omega)]; omega
    have w2 : IntKind.u64.wrap ((bs.length - p : Nat) : Int) = ((bs.length - p : Nat) : Int) := wrap_u64 (by omega) (by omega)
    (refine wpc_false (by simp only [ev, lk, Nat.reduceEqDiff, ↓reduceIte, decide_true, decide_false, Bool.not_true, Bool.not_false, Bool.true_and, Bool.false_and, Bool.and_true, Bool.and_false, Bool.or_false, Bool.false_or, Bool.true_or, Bool.or_true, Bool.and_self, Bool.or_self, Int.cast_ofNat_Int, Int.natCast_inj, Int.ofNat_lt, Int.ofNat_le, Int.natCast_nonneg, eq_self, Int.reduceLT, Int.reduceLE, Int.reduceEq, Bool.false_eq_true, if_true, if_false, reduceCtorEq, and_self, and_true, true_and, and_false, false_and]) ?_)
    (refine wpc_skip' ?_)
    (refine wpc_seq ?_); (refine wpc_seq ?_); (refine wpc_region fun Kr hKr => ?_; simp only [go_sem, ↓reduceIte, Nat.reduceEqDiff, Nat.reduceAdd, Nat.reduceSub, Nat.reduceLeDiff, Nat.reduceMul, reduceCtorEq, Nat.reduceBEq, Int.reduceLT, Int.reduceLE, Int.reduceNeg, Int.reduceEq, w1, w2]; with_reducible refine hKr _ ?_; clear hKr Kr)
    by_cases hn : bs.length - p < n
    · (refine wpc_true (by simp only [ev, lk, Nat.reduceEqDiff, ↓reduceIte, decide_true, decide_false, Bool.not_true, Bool.not_false, Bool.true_and, Bool.false_and, Bool.and_true, Bool.and_false, Bool.or_false, Bool.false_or, Bool.true_or, Bool.or_true, Bool.and_self, Bool.or_self, Int.cast_ofNat_Int, Int.natCast_inj, Int.ofNat_lt, Int.ofNat_le, Int.natCast_nonneg, eq_self, Int.reduceLT, Int.reduceLE, Int.reduceEq, Bool.false_eq_true, if_true, if_false, reduceCtorEq, and_self, and_true, true_and, and_false, false_and, hn]) ?_)
      (refine wpc_seq ?_); (refine wpc_region fun Kr hKr => ?_; simp only [go_sem, ↓reduceIte, Nat.reduceEqDiff, Nat.reduceAdd, Nat.reduceSub, Nat.reduceLeDiff, Nat.reduceMul, reduceCtorEq, Nat.reduceBEq, Int.reduceLT, Int.reduceLE, Int.reduceNeg, Int.reduceEq]; with_reducible refine hKr _ ?_; clear hKr Kr)
      (refine endsV (x := _) (σ' := _) (by simp only [retOf, retVals, oneOrTup, callArgs, callArgsL, evAll, ev, lk, shutAll, shut, nrm, nrm0, nrm1, upd, ↓reduceIte, Nat.reduceEqDiff, List.map_nil, List.map_cons, eq_self, if_true, if_false, reduceCtorEq, and_self, ownRes]; rfl) ?_)
      simp only [spT, gcT, if_true, if_pos hn]; rfl
    · (refine wpc_false (by simp only [ev, lk, Nat.reduceEqDiff, ↓reduceIte, decide_true, decide_false, Bool.not_true, Bool.not_false, Bool.true_and, Bool.false_and, Bool.and_true, Bool.and_false, Bool.or_false, Bool.false_or, Bool.true_or, Bool.or_true, Bool.and_self, Bool.or_self, Int.cast_ofNat_Int, Int.natCast_inj, Int.ofNat_lt, Int.ofNat_le, Int.natCast_nonneg, eq_self, Int.reduceLT, Int.reduceLE, Int.reduceEq, Bool.false_eq_true, if_true, if_false, reduceCtorEq, and_self, and_true, true_and, and_false, false_and, hn]) ?_)
      (refine wpc_skip' ?_)
      have w3 : IntKind.i64.wrap (n : Int) = (n : Int) := wrap_i64 (by omega) (by omega)
      have w4 : IntKind.i64.wrap ((p : Int) + (n : Int)) = ((p + n : Nat) : Int) := by rw [wrap_i64 (by omega) (by omega)]; omega
      have hc : cutAt bs.length (some (p : Int)) (some ((p + n : Nat) : Int)) none = some (p, p + n) := by
        unfold cutAt
        simp only [Option.getD_some, Option.getD_none]
        rw [if_pos ⟨by omega, by omega, by omega, by omega⟩]; simp only [Int.toNat_natCast]
      have hcut : cut (bs.map encB) p (p + n) = ((bs.drop p).take (p + n - p)).map encB := by simp only [cut, List.map_take, List.map_drop]
      have hl : ((bs.drop p).take (p + n - p)).length ≤ 140737488355328 := by simp; omega
      (refine wpc_seq ?_); (refine wpc_region fun Kr hKr => ?_; simp only [go_sem, ↓reduceIte, Nat.reduceEqDiff, Nat.reduceAdd, Nat.reduceSub, Nat.reduceLeDiff, Nat.reduceMul, reduceCtorEq, Nat.reduceBEq, Int.reduceLT, Int.reduceLE, Int.reduceNeg, Int.reduceEq]; with_reducible refine hKr _ ?_; clear hKr Kr)
      (refine wpc_seq ?_); (refine wpc_region fun Kr hKr => ?_; simp only [go_sem, ↓reduceIte, Nat.reduceEqDiff, Nat.reduceAdd, Nat.reduceSub, Nat.reduceLeDiff, Nat.reduceMul, reduceCtorEq, Nat.reduceBEq, Int.reduceLT, Int.reduceLE, Int.reduceNeg, Int.reduceEq, w3, w4, oneSize_bytes, hc, hcut, hl, Nat.zero_add]; with_reducible refine hKr _ ?_; clear hKr Kr)
      (refine endsV (x := _) (σ' := _) (by simp only [retOf, retVals, oneOrTup, callArgs, callArgsL, evAll, ev, lk, shutAll, shut, nrm, nrm0, nrm1, upd, ↓reduceIte, Nat.reduceEqDiff, List.map_nil, List.map_cons, eq_self, if_true, if_false, reduceCtorEq, and_self, ownRes]; rfl) ?_)
      simp only [spT, gcT, if_true, if_neg hn]; rfl
  · have he' : ¬ ((e : Int) = 0) := by omega
    (refine wpc_true (by simp only [ev, lk, Nat.reduceEqDiff, ↓reduceIte, decide_true, decide_false, Bool.not_true, Bool.not_false, Bool.true_and, Bool.false_and, Bool.and_true, Bool.and_false, Bool.or_false, Bool.false_or, Bool.true_or, Bool.or_true, Bool.and_self, Bool.or_self, Int.cast_ofNat_Int, Int.natCast_inj, Int.ofNat_lt, Int.ofNat_le, Int.natCast_nonneg, eq_self, Int.reduceLT, Int.reduceLE, Int.reduceEq, Bool.false_eq_true, if_true, if_false, reduceCtorEq, and_self, and_true, true_and, and_false, false_and, he']) ?_)
    (refine wpc_seq ?_); (refine wpc_region fun Kr hKr => ?_; simp only [go_sem, ↓reduceIte, Nat.reduceEqDiff, Nat.reduceAdd, Nat.reduceSub, Nat.reduceLeDiff, Nat.reduceMul, reduceCtorEq, Nat.reduceBEq, Int.reduceLT, Int.reduceLE, Int.reduceNeg, Int.reduceEq]; with_reducible refine hKr _ ?_; clear hKr Kr)
    (refine endsV (x := _) (σ' := _) (by simp only [retOf, retVals, oneOrTup, callArgs, callArgsL, evAll, ev, lk, shutAll, shut, nrm, nrm0, nrm1, upd, ↓reduceIte, Nat.reduceEqDiff, List.map_nil, List.map_cons, eq_self, if_true, if_false, reduceCtorEq, and_self, ownRes]; rfl) ?_)
    simp only [spT, gcT, if_neg he]; rfl
end Go.Proofs.Ytfmeedphpcjkmaa.Ag
