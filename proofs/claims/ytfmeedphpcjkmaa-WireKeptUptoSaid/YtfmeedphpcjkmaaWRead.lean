/- The walk over what reads words; the law of the words. -/
import Derived.Test.YtfmeedphpcjkmaaWWord
-- sem
set_option linter.unusedVariables false
set_option linter.unusedSimpArgs false
namespace Go.Proofs.Ytfmeedphpcjkmaa.Ag
attribute [local go_sem] runTo_nil runTo_n runTo_g conT_some conT_none conB_true conB_false conG_bool runI_nil runI_n runI_g conTI_some conTI_none conBI_some conBI_none conGI_bool runD_nil runD_n runD_g conDB_some conDB_none conDF_some conDF_none conD_true conD_false conDW_true conDW_false conDG_bool gρ openV pickB opds aop ev evOpt evAll callArgs callArgsL ownRes shutAll shut nrm nrm0 nrm1 St.put lk upd nxt bin2 un1 intOp lenOf isStr isBoolIV notNil IV.cells fldA fldV partIV partTV loadOf storeOf cellsOf TV.cells? mkAgg ivsOf splice fillTV dstOf dstOf0 srcOf srcOf0 unIf isNilS condP retOf retVals oneOrTup thenC blockC List.map_cons List.map_nil List.length_cons List.length_nil List.length_map Option.map_some Bool.not_true Bool.not_false Bool.true_and Bool.false_and Bool.and_true Bool.and_false Bool.false_eq_true if_true if_false decide_true decide_false List.contains_nil List.contains_cons eq_self Int.toNat_natCast Option.getD_some Option.getD_none and_true true_and List.getElem?_cons_zero List.getElem?_cons_succ List.drop_zero List.drop_succ_cons List.take_succ_cons List.take_zero List.nil_append List.cons_append wpr_nil wprd_nil Int.natCast_nonneg Int.natCast_inj Int.ofNat_lt Int.ofNat_le Bool.cond_false_right Bool.cond_true_left Bool.cond_false_left Bool.cond_true_right cond_true cond_false beq_true beq_false Bool.not_eq_true beq_self_eq_true oneSize Nat.mul_one List.length_append Int.toNat_zero List.replicate_zero Int.cast_ofNat_Int Int.mul_one Bool.or_false Bool.false_or Bool.true_or Bool.or_true Bool.and_self Bool.or_self
attribute [-go_sem] IntKind.bits

theorem or_add8 {n c i : Nat} (hn : n < 256 ^ i) : n ||| (c * 256 ^ i) = n + c * 256 ^ i := by
  have h2 : (256 : Nat) ^ i = 2 ^ (8 * i) := by rw [Nat.pow_mul]
  rw [h2] at hn ⊢
  have := Nat.shiftLeft_add_eq_or_of_lt hn c
  rw [Nat.shiftLeft_eq] at this
  rw [Nat.or_comm, ← this, Nat.add_comm]
theorem pow_small8 {i : Nat} (h : i ≤ 7) : 256 ^ i ≤ 72057594037927936 := by
  have := Nat.pow_le_pow_right (n := 256) (by omega) h
  have e : (256 : Nat) ^ 7 = 72057594037927936 := by decide
  omega
theorem byte_or {n c i : Nat} (hi : i ≤ 7) (hn : n < 256 ^ i) (hc : c < 256) :
    bitOp .or .u64 (n : Int) (IntKind.u64.wrap ((c : Int) * 2 ^ (min ((8 * (i : Int)).toNat) IntKind.u64.bits))) = ((n + c * 256 ^ i : Nat) : Int) := by
  have e1 : (8 * (i : Int)).toNat = 8 * i := by omega
  have e2 : min (8 * i) IntKind.u64.bits = 8 * i := by rw [u64_bits]; omega
  have e3 : ((2 : Int) ^ (8 * i)) = ((256 ^ i : Nat) : Int) := by
    rw [Int.natCast_pow, Int.pow_mul]; rfl
  rw [e1, e2, e3]
  have hp := pow_small8 hi
  have hlt : c * 256 ^ i ≤ 255 * 72057594037927936 := Nat.mul_le_mul (by omega) hp
  rw [← Int.natCast_mul, wrap_u64 (by omega) (by omega), bitor_nat (by omega) (by omega), or_add8 hn]

/-- So many bytes as a number: the number, the place behind, the error. -/
def rdAt (bs : List UInt8) (k : Int) (s : Nat) : Nat × Nat × Nat :=
  if 0 ≤ k ∧ k ≤ bs.length then (if bs.length - k.toNat < s then (0, 0, 3) else (leN ((bs.drop k.toNat).take s), k.toNat + s, 0)) else (0, 0, 18)

theorem leN_take {l : List UInt8} {i : Nat} {b : UInt8} (h : l[i]? = some b) : leN (l.take (i + 1)) = leN (l.take i) + b.toNat * 256 ^ i := by
  have hi := (List.getElem?_eq_some_iff.1 h).1
  rw [List.take_add_one, h, Option.toList_some, leN_append, List.length_take, Nat.min_eq_left (by omega)]
theorem leN_take_lt (l : List UInt8) {i : Nat} (h : i ≤ l.length) : leN (l.take i) < 256 ^ i := by
  have := leN_lt (l.take i)
  rwa [List.length_take, Nat.min_eq_left h] at this

theorem read_fc (bs : List UInt8) (k : Int) (s : Nat) (hs : s ≤ 8) (hb : bs.length < 4611686018427387904) : FC Try.prog i_wire_read [.slice (bs.map encB), .int .i64 k, .int .i64 (s : Int)] (· = encGV (rdAt bs k s)) := by
  (refine .of F_wire_read T_wire_read L_wire_read ?_; unfold A_wire_read; simp only [args0, List.map_cons, List.map_nil, List.zipIdx_cons, List.zipIdx_nil])
  (refine wpc_seq ?_); (refine wpc_region fun Kr hKr => ?_; simp only [go_sem, ↓reduceIte, Nat.reduceEqDiff, Nat.reduceAdd, Nat.reduceSub, Nat.reduceLeDiff, Nat.reduceMul, reduceCtorEq, Nat.reduceBEq, Int.reduceLT, Int.reduceLE, Int.reduceNeg, Int.reduceEq]; with_reducible refine hKr _ ?_; clear hKr Kr)
  (refine wpc_seq ?_)
  show wpc _ (.seq _ _) _ _
  (refine wpc_seq ?_); (refine wpc_region fun Kr hKr => ?_; simp only [go_sem, ↓reduceIte, Nat.reduceEqDiff, Nat.reduceAdd, Nat.reduceSub, Nat.reduceLeDiff, Nat.reduceMul, reduceCtorEq, Nat.reduceBEq, Int.reduceLT, Int.reduceLE, Int.reduceNeg, Int.reduceEq])
  (refine wpr_callE (place_fc (bs.map encB) k) (σ' := _) (by simp only [callArgs, callArgsL, evAll, ev, lk, shutAll, shut, nrm, nrm0, nrm1, upd, ↓reduceIte, Nat.reduceEqDiff, List.map_nil, List.map_cons, eq_self, if_true, if_false, reduceCtorEq, and_self, ownRes]; rfl) ?_; simp only [go_sem, ↓reduceIte, Nat.reduceEqDiff, Nat.reduceAdd, Nat.reduceSub, Nat.reduceLeDiff, Nat.reduceMul, reduceCtorEq, Nat.reduceBEq, Int.reduceLT, Int.reduceLE, Int.reduceNeg, Int.reduceEq])
  (with_reducible refine hKr _ ?_; clear hKr Kr)
  by_cases hp : 0 ≤ k ∧ k ≤ bs.length
  · obtain ⟨hk0, hk1⟩ := hp
    obtain ⟨a, rfl⟩ := Int.eq_ofNat_of_zero_le hk0
    have hk1' : a ≤ bs.length := by omega
    (refine wpc_false (by simp only [ev, lk, Nat.reduceEqDiff, ↓reduceIte, decide_true, decide_false, Bool.not_true, Bool.not_false, Bool.true_and, Bool.false_and, Bool.and_true, Bool.and_false, Bool.or_false, Bool.false_or, Bool.true_or, Bool.or_true, Bool.and_self, Bool.or_self, Int.cast_ofNat_Int, Int.natCast_inj, Int.ofNat_lt, Int.ofNat_le, Int.natCast_nonneg, eq_self, Int.reduceLT, Int.reduceLE, Int.reduceEq, Bool.false_eq_true, if_true, if_false, reduceCtorEq, and_self, and_true, true_and, and_false, false_and, hk0, hk1']) ?_)
    have w1 : IntKind.i64.wrap ((bs.length : Int) - (a : Int)) = ((bs.length - a : Nat) : Int) := by rw [wrap_i64 (by omega) (by omega)]; omega
    (refine wpc_seq ?_); (refine wpc_region fun Kr hKr => ?_; simp only [go_sem, ↓reduceIte, Nat.reduceEqDiff, Nat.reduceAdd, Nat.reduceSub, Nat.reduceLeDiff, Nat.reduceMul, reduceCtorEq, Nat.reduceBEq, Int.reduceLT, Int.reduceLE, Int.reduceNeg, Int.reduceEq, w1]; with_reducible refine hKr _ ?_; clear hKr Kr)
    by_cases hn : bs.length - a < s
    · (refine wpc_true (by simp only [ev, lk, Nat.reduceEqDiff, ↓reduceIte, decide_true, decide_false, Bool.not_true, Bool.not_false, Bool.true_and, Bool.false_and, Bool.and_true, Bool.and_false, Bool.or_false, Bool.false_or, Bool.true_or, Bool.or_true, Bool.and_self, Bool.or_self, Int.cast_ofNat_Int, Int.natCast_inj, Int.ofNat_lt, Int.ofNat_le, Int.natCast_nonneg, eq_self, Int.reduceLT, Int.reduceLE, Int.reduceEq, Bool.false_eq_true, if_true, if_false, reduceCtorEq, and_self, and_true, true_and, and_false, false_and, hn]) ?_)
      (refine wpc_seq ?_); (refine wpc_region fun Kr hKr => ?_; simp only [go_sem, ↓reduceIte, Nat.reduceEqDiff, Nat.reduceAdd, Nat.reduceSub, Nat.reduceLeDiff, Nat.reduceMul, reduceCtorEq, Nat.reduceBEq, Int.reduceLT, Int.reduceLE, Int.reduceNeg, Int.reduceEq]; with_reducible refine hKr _ ?_; clear hKr Kr)
      (refine endsV (x := _) (σ' := _) (by simp only [retOf, retVals, oneOrTup, callArgs, callArgsL, evAll, ev, lk, shutAll, shut, nrm, nrm0, nrm1, upd, ↓reduceIte, Nat.reduceEqDiff, List.map_nil, List.map_cons, eq_self, if_true, if_false, reduceCtorEq, and_self, ownRes]; rfl) ?_)
      simp only [rdAt, if_pos (show (0 : Int) ≤ (a : Int) ∧ (a : Int) ≤ bs.length from ⟨hk0, hk1⟩), Int.toNat_natCast, if_pos hn]; rfl
    (refine wpc_false (by simp only [ev, lk, Nat.reduceEqDiff, ↓reduceIte, decide_true, decide_false, Bool.not_true, Bool.not_false, Bool.true_and, Bool.false_and, Bool.and_true, Bool.and_false, Bool.or_false, Bool.false_or, Bool.true_or, Bool.or_true, Bool.and_self, Bool.or_self, Int.cast_ofNat_Int, Int.natCast_inj, Int.ofNat_lt, Int.ofNat_le, Int.natCast_nonneg, eq_self, Int.reduceLT, Int.reduceLE, Int.reduceEq, Bool.false_eq_true, if_true, if_false, reduceCtorEq, and_self, and_true, true_and, and_false, false_and, hn]) ?_)
    (refine wpc_skip' ?_)
    show wpc _ (.seq (.seq _ _) _) _ _
    (refine wpc_seq ?_); (refine wpc_seq ?_); (refine wpc_region fun Kr hKr => ?_; simp only [go_sem, ↓reduceIte, Nat.reduceEqDiff, Nat.reduceAdd, Nat.reduceSub, Nat.reduceLeDiff, Nat.reduceMul, reduceCtorEq, Nat.reduceBEq, Int.reduceLT, Int.reduceLE, Int.reduceNeg, Int.reduceEq]; with_reducible refine hKr _ ?_; clear hKr Kr)
    show wpc _ (.block 1 (.loop _)) _ _
    refine wpc_loop (fun m st => ∃ i : Nat, m = s - i ∧ i ≤ s ∧ st.σ = [] ∧ lk st.ρ 0 = some (.iv (.slice (bs.map encB))) ∧ lk st.ρ 1 = some (.iv (.int .i64 (a : Int))) ∧ lk st.ρ 2 = some (.iv (.int .i64 (s : Int))) ∧ lk st.ρ 6 = some (.iv (.int .u64 (leN ((bs.drop a).take i) : Nat))) ∧
        lk st.ρ 22 = some (.iv (.int .i64 (s : Int))) ∧ lk st.ρ 23 = some (.iv (.int .i64 (i : Int)))) s ⟨0, rfl, by omega, rfl, ?_, ?_, ?_, ?_, ?_, ?_⟩ ?_
    · simp only [go_sem, ↓reduceIte, Nat.reduceEqDiff, Nat.reduceAdd, Nat.reduceSub, Nat.reduceLeDiff, Nat.reduceMul, reduceCtorEq, Nat.reduceBEq, Int.reduceLT, Int.reduceLE, Int.reduceNeg, Int.reduceEq]
    · simp only [go_sem, ↓reduceIte, Nat.reduceEqDiff, Nat.reduceAdd, Nat.reduceSub, Nat.reduceLeDiff, Nat.reduceMul, reduceCtorEq, Nat.reduceBEq, Int.reduceLT, Int.reduceLE, Int.reduceNeg, Int.reduceEq]
    · simp only [go_sem, ↓reduceIte, Nat.reduceEqDiff, Nat.reduceAdd, Nat.reduceSub, Nat.reduceLeDiff, Nat.reduceMul, reduceCtorEq, Nat.reduceBEq, Int.reduceLT, Int.reduceLE, Int.reduceNeg, Int.reduceEq]
    · simp only [go_sem, ↓reduceIte, Nat.reduceEqDiff, Nat.reduceAdd, Nat.reduceSub, Nat.reduceLeDiff, Nat.reduceMul, reduceCtorEq, Nat.reduceBEq, Int.reduceLT, Int.reduceLE, Int.reduceNeg, Int.reduceEq]; rfl
    · simp only [go_sem, ↓reduceIte, Nat.reduceEqDiff, Nat.reduceAdd, Nat.reduceSub, Nat.reduceLeDiff, Nat.reduceMul, reduceCtorEq, Nat.reduceBEq, Int.reduceLT, Int.reduceLE, Int.reduceNeg, Int.reduceEq]
    · simp only [go_sem, ↓reduceIte, Nat.reduceEqDiff, Nat.reduceAdd, Nat.reduceSub, Nat.reduceLeDiff, Nat.reduceMul, reduceCtorEq, Nat.reduceBEq, Int.reduceLT, Int.reduceLE, Int.reduceNeg, Int.reduceEq]
    rintro m st ⟨i, rfl, hi, hσ, h0, h1, h2, h6, h22, h23⟩ K hK
    obtain ⟨ρ, σ⟩ := st
    simp only at hσ h0 h1 h2 h6 h22 h23
    subst hσ
    (refine wpc_seq ?_); (refine wpc_region fun Kr hKr => ?_; simp only [go_sem, ↓reduceIte, Nat.reduceEqDiff, Nat.reduceAdd, Nat.reduceSub, Nat.reduceLeDiff, Nat.reduceMul, reduceCtorEq, Nat.reduceBEq, Int.reduceLT, Int.reduceLE, Int.reduceNeg, Int.reduceEq, h22, h23]; with_reducible refine hKr _ ?_; clear hKr Kr)
    (refine wpc_seq ?_)
    by_cases hlt : i < s
    · (refine wpc_true (by simp only [ev, lk, Nat.reduceEqDiff, ↓reduceIte, decide_true, decide_false, Bool.not_true, Bool.not_false, Bool.true_and, Bool.false_and, Bool.and_true, Bool.and_false, Bool.or_false, Bool.false_or, Bool.true_or, Bool.or_true, Bool.and_self, Bool.or_self, Int.cast_ofNat_Int, Int.natCast_inj, Int.ofNat_lt, Int.ofNat_le, Int.natCast_nonneg, eq_self, Int.reduceLT, Int.reduceLE, Int.reduceEq, Bool.false_eq_true, if_true, if_false, reduceCtorEq, and_self, and_true, true_and, and_false, false_and, hlt]) ?_)
      (refine wpc_skip' ?_)
      (refine wpc_seq ?_)
      show wpc _ (.seq _ _) _ _
      (refine wpc_seq ?_); (refine wpc_region fun Kr hKr => ?_; simp only [go_sem, ↓reduceIte, Nat.reduceEqDiff, Nat.reduceAdd, Nat.reduceSub, Nat.reduceLeDiff, Nat.reduceMul, reduceCtorEq, Nat.reduceBEq, Int.reduceLT, Int.reduceLE, Int.reduceNeg, Int.reduceEq, h23]; with_reducible refine hKr _ ?_; clear hKr Kr)
      have hai : a + i < bs.length := by omega
      obtain ⟨b, hbb⟩ : ∃ b, bs[a + i]? = some b := ⟨_, List.getElem?_eq_getElem hai⟩
      have hm : (bs.map encB)[a + i]? = some (encB b) := by simp [hbb]
      have hd : (bs.drop a)[i]? = some b := by rw [List.getElem?_drop]; exact hbb
      have hbl := b.toNat_lt
      have w2 : IntKind.i64.wrap ((a : Int) + (i : Int)) = ((a + i : Nat) : Int) := by rw [wrap_i64 (by omega) (by omega)]; omega
      have w3 : IntKind.u64.wrap (b.toNat : Int) = (b.toNat : Int) := wrap_u64 (by omega) (by omega)
      have w4 : IntKind.i64.wrap (8 * (i : Int)) = 8 * (i : Int) := wrap_i64 (by omega) (by omega)
      have g : ¬ (8 * (i : Int) < 0) := by omega
      have ho := byte_or (n := leN ((bs.drop a).take i)) (c := b.toNat) (i := i) (by omega) (leN_take_lt _ (by simp; omega)) (by omega)
      (refine wpc_region fun Kr hKr => ?_; simp only [go_sem, ↓reduceIte, Nat.reduceEqDiff, Nat.reduceAdd, Nat.reduceSub, Nat.reduceLeDiff, Nat.reduceMul, reduceCtorEq, Nat.reduceBEq, Int.reduceLT, Int.reduceLE, Int.reduceNeg, Int.reduceEq, h0, h1, h6, h23, w2, hm, encB, w3, w4, g, shfOp, ho]; with_reducible refine hKr _ ?_; clear hKr Kr)
      have w5 : IntKind.i64.wrap ((i : Int) + 1) = ((i + 1 : Nat) : Int) := by rw [wrap_i64 (by omega) (by omega)]; omega
      (refine wpc_region fun Kr hKr => ?_; simp only [go_sem, ↓reduceIte, Nat.reduceEqDiff, Nat.reduceAdd, Nat.reduceSub, Nat.reduceLeDiff, Nat.reduceMul, reduceCtorEq, Nat.reduceBEq, Int.reduceLT, Int.reduceLE, Int.reduceNeg, Int.reduceEq, h23, w5]; with_reducible refine hKr _ ?_; clear hKr Kr)
      refine hK _ (s - (i + 1)) (by omega) ⟨i + 1, rfl, by omega, rfl, ?_, ?_, ?_, ?_, ?_, ?_⟩
      · simp only [go_sem, ↓reduceIte, Nat.reduceEqDiff, Nat.reduceAdd, Nat.reduceSub, Nat.reduceLeDiff, Nat.reduceMul, reduceCtorEq, Nat.reduceBEq, Int.reduceLT, Int.reduceLE, Int.reduceNeg, Int.reduceEq, h0]
      · simp only [go_sem, ↓reduceIte, Nat.reduceEqDiff, Nat.reduceAdd, Nat.reduceSub, Nat.reduceLeDiff, Nat.reduceMul, reduceCtorEq, Nat.reduceBEq, Int.reduceLT, Int.reduceLE, Int.reduceNeg, Int.reduceEq, h1]
      · simp only [go_sem, ↓reduceIte, Nat.reduceEqDiff, Nat.reduceAdd, Nat.reduceSub, Nat.reduceLeDiff, Nat.reduceMul, reduceCtorEq, Nat.reduceBEq, Int.reduceLT, Int.reduceLE, Int.reduceNeg, Int.reduceEq, h2]
      · rw [leN_take hd]; simp only [go_sem, ↓reduceIte, Nat.reduceEqDiff, Nat.reduceAdd, Nat.reduceSub, Nat.reduceLeDiff, Nat.reduceMul, reduceCtorEq, Nat.reduceBEq, Int.reduceLT, Int.reduceLE, Int.reduceNeg, Int.reduceEq]
      · simp only [go_sem, ↓reduceIte, Nat.reduceEqDiff, Nat.reduceAdd, Nat.reduceSub, Nat.reduceLeDiff, Nat.reduceMul, reduceCtorEq, Nat.reduceBEq, Int.reduceLT, Int.reduceLE, Int.reduceNeg, Int.reduceEq, h22]
      · simp only [go_sem, ↓reduceIte, Nat.reduceEqDiff, Nat.reduceAdd, Nat.reduceSub, Nat.reduceLeDiff, Nat.reduceMul, reduceCtorEq, Nat.reduceBEq, Int.reduceLT, Int.reduceLE, Int.reduceNeg, Int.reduceEq]
    · have : i = s := by omega
      subst this
      (refine wpc_false (by simp only [ev, lk, Nat.reduceEqDiff, ↓reduceIte, decide_true, decide_false, Bool.not_true, Bool.not_false, Bool.true_and, Bool.false_and, Bool.and_true, Bool.and_false, Bool.or_false, Bool.false_or, Bool.true_or, Bool.or_true, Bool.and_self, Bool.or_self, Int.cast_ofNat_Int, Int.natCast_inj, Int.ofNat_lt, Int.ofNat_le, Int.natCast_nonneg, eq_self, Int.reduceLT, Int.reduceLE, Int.reduceEq, Bool.false_eq_true, if_true, if_false, reduceCtorEq, and_self, and_true, true_and, and_false, false_and, hlt]) ?_)
      show wpc _ (.seq _ _) _ _
      have w2 : IntKind.i64.wrap ((a : Int) + (i : Int)) = ((a + i : Nat) : Int) := by rw [wrap_i64 (by omega) (by omega)]; omega
      (refine wpc_seq ?_); (refine wpc_region fun Kr hKr => ?_; simp only [go_sem, ↓reduceIte, Nat.reduceEqDiff, Nat.reduceAdd, Nat.reduceSub, Nat.reduceLeDiff, Nat.reduceMul, reduceCtorEq, Nat.reduceBEq, Int.reduceLT, Int.reduceLE, Int.reduceNeg, Int.reduceEq, h1, h2, h6, w2]; with_reducible refine hKr _ ?_; clear hKr Kr)
      (refine endsV (x := _) (σ' := _) (by simp only [retOf, retVals, oneOrTup, callArgs, callArgsL, evAll, ev, lk, shutAll, shut, nrm, nrm0, nrm1, upd, ↓reduceIte, Nat.reduceEqDiff, List.map_nil, List.map_cons, eq_self, if_true, if_false, reduceCtorEq, and_self, ownRes]; rfl) ?_)
      simp only [rdAt, if_pos (show (0 : Int) ≤ (a : Int) ∧ (a : Int) ≤ bs.length from ⟨hk0, hk1⟩), Int.toNat_natCast, if_neg hn]; rfl
  · (refine wpc_true (by simp only [ev, lk, Nat.reduceEqDiff, ↓reduceIte, decide_true, decide_false, Bool.not_true, Bool.not_false, Bool.true_and, Bool.false_and, Bool.and_true, Bool.and_false, Bool.or_false, Bool.false_or, Bool.true_or, Bool.or_true, Bool.and_self, Bool.or_self, Int.cast_ofNat_Int, Int.natCast_inj, Int.ofNat_lt, Int.ofNat_le, Int.natCast_nonneg, eq_self, Int.reduceLT, Int.reduceLE, Int.reduceEq, Bool.false_eq_true, if_true, if_false, reduceCtorEq, and_self, and_true, true_and, and_false, false_and, hp]) ?_)
    (refine wpc_seq ?_); (refine wpc_region fun Kr hKr => ?_; simp only [go_sem, ↓reduceIte, Nat.reduceEqDiff, Nat.reduceAdd, Nat.reduceSub, Nat.reduceLeDiff, Nat.reduceMul, reduceCtorEq, Nat.reduceBEq, Int.reduceLT, Int.reduceLE, Int.reduceNeg, Int.reduceEq]; with_reducible refine hKr _ ?_; clear hKr Kr)
    (refine endsV (x := _) (σ' := _) (by simp only [retOf, retVals, oneOrTup, callArgs, callArgsL, evAll, ev, lk, shutAll, shut, nrm, nrm0, nrm1, upd, ↓reduceIte, Nat.reduceEqDiff, List.map_nil, List.map_cons, eq_self, if_true, if_false, reduceCtorEq, and_self, ownRes]; rfl) ?_)
    simp only [rdAt, if_neg hp]; rfl

theorem rdAt_lt (bs : List UInt8) (k : Int) (s : Nat) : (rdAt bs k s).1 < 256 ^ s := by
  have hp : 0 < 256 ^ s := Nat.pow_pos (by omega)
  unfold rdAt
  split
  · split
    · exact hp
    · exact leN_take_lt _ (by simp; omega)
  · exact hp

def enc32 (r : Nat × Nat × Nat) : IV := .tup [.int .u32 r.1, .int .i64 r.2.1, .int .i64 r.2.2]
theorem getFix32_fc (bs : List UInt8) (k : Int) (hb : bs.length < 4611686018427387904) : FC Try.prog i_wire_GetFix32 [.slice (bs.map encB), .int .i64 k] (· = enc32 (rdAt bs k 4)) := by
  (refine .of F_wire_GetFix32 T_wire_GetFix32 L_wire_GetFix32 ?_; unfold A_wire_GetFix32; simp only [args0, List.map_cons, List.map_nil, List.zipIdx_cons, List.zipIdx_nil])
  (refine wpc_seq ?_); (refine wpc_region fun Kr hKr => ?_; simp only [go_sem, ↓reduceIte, Nat.reduceEqDiff, Nat.reduceAdd, Nat.reduceSub, Nat.reduceLeDiff, Nat.reduceMul, reduceCtorEq, Nat.reduceBEq, Int.reduceLT, Int.reduceLE, Int.reduceNeg, Int.reduceEq]; with_reducible refine hKr _ ?_; clear hKr Kr)
  have hl := rdAt_lt bs k 4
  have e : (256 : Nat) ^ 4 = 4294967296 := by decide
  have w1 : IntKind.u32.wrap ((rdAt bs k 4).1 : Int) = ((rdAt bs k 4).1 : Int) := IntWalk.u32_in _ ⟨by omega, by omega⟩
  (refine wpc_seq ?_); (refine wpc_region fun Kr hKr => ?_; simp only [go_sem, ↓reduceIte, Nat.reduceEqDiff, Nat.reduceAdd, Nat.reduceSub, Nat.reduceLeDiff, Nat.reduceMul, reduceCtorEq, Nat.reduceBEq, Int.reduceLT, Int.reduceLE, Int.reduceNeg, Int.reduceEq])
  (refine wpr_callE (read_fc bs k 4 (by omega) hb) (σ' := _) (by simp only [callArgs, callArgsL, evAll, ev, lk, shutAll, shut, nrm, nrm0, nrm1, upd, ↓reduceIte, Nat.reduceEqDiff, List.map_nil, List.map_cons, eq_self, if_true, if_false, reduceCtorEq, and_self, ownRes, encGV]; rfl) ?_; simp only [go_sem, ↓reduceIte, Nat.reduceEqDiff, Nat.reduceAdd, Nat.reduceSub, Nat.reduceLeDiff, Nat.reduceMul, reduceCtorEq, Nat.reduceBEq, Int.reduceLT, Int.reduceLE, Int.reduceNeg, Int.reduceEq, encGV])
  (with_reducible refine hKr _ ?_; clear hKr Kr)
  (refine wpc_seq ?_); (refine wpc_region fun Kr hKr => ?_; simp only [go_sem, ↓reduceIte, Nat.reduceEqDiff, Nat.reduceAdd, Nat.reduceSub, Nat.reduceLeDiff, Nat.reduceMul, reduceCtorEq, Nat.reduceBEq, Int.reduceLT, Int.reduceLE, Int.reduceNeg, Int.reduceEq, w1]; with_reducible refine hKr _ ?_; clear hKr Kr)
  (refine endsV (x := _) (σ' := _) (by simp only [retOf, retVals, oneOrTup, callArgs, callArgsL, evAll, ev, lk, shutAll, shut, nrm, nrm0, nrm1, upd, ↓reduceIte, Nat.reduceEqDiff, List.map_nil, List.map_cons, eq_self, if_true, if_false, reduceCtorEq, and_self, ownRes]; rfl) ?_)
  rfl
theorem getFix64_fc (bs : List UInt8) (k : Int) (hb : bs.length < 4611686018427387904) : FC Try.prog i_wire_GetFix64 [.slice (bs.map encB), .int .i64 k] (· = encGV (rdAt bs k 8)) := by
  (refine .of F_wire_GetFix64 T_wire_GetFix64 L_wire_GetFix64 ?_; unfold A_wire_GetFix64; simp only [args0, List.map_cons, List.map_nil, List.zipIdx_cons, List.zipIdx_nil])
  (refine wpc_seq ?_); (refine wpc_region fun Kr hKr => ?_; simp only [go_sem, ↓reduceIte, Nat.reduceEqDiff, Nat.reduceAdd, Nat.reduceSub, Nat.reduceLeDiff, Nat.reduceMul, reduceCtorEq, Nat.reduceBEq, Int.reduceLT, Int.reduceLE, Int.reduceNeg, Int.reduceEq]; with_reducible refine hKr _ ?_; clear hKr Kr)
  (refine wpc_seq ?_); (refine wpc_region fun Kr hKr => ?_; simp only [go_sem, ↓reduceIte, Nat.reduceEqDiff, Nat.reduceAdd, Nat.reduceSub, Nat.reduceLeDiff, Nat.reduceMul, reduceCtorEq, Nat.reduceBEq, Int.reduceLT, Int.reduceLE, Int.reduceNeg, Int.reduceEq])
  (refine wpr_callE (read_fc bs k 8 (by omega) hb) (σ' := _) (by simp only [callArgs, callArgsL, evAll, ev, lk, shutAll, shut, nrm, nrm0, nrm1, upd, ↓reduceIte, Nat.reduceEqDiff, List.map_nil, List.map_cons, eq_self, if_true, if_false, reduceCtorEq, and_self, ownRes, encGV]; rfl) ?_; simp only [go_sem, ↓reduceIte, Nat.reduceEqDiff, Nat.reduceAdd, Nat.reduceSub, Nat.reduceLeDiff, Nat.reduceMul, reduceCtorEq, Nat.reduceBEq, Int.reduceLT, Int.reduceLE, Int.reduceNeg, Int.reduceEq, encGV])
  (with_reducible refine hKr _ ?_; clear hKr Kr)
  (refine endsV (x := _) (σ' := _) (by simp only [retOf, retVals, oneOrTup, callArgs, callArgsL, evAll, ev, lk, shutAll, shut, nrm, nrm0, nrm1, upd, ↓reduceIte, Nat.reduceEqDiff, List.map_nil, List.map_cons, eq_self, if_true, if_false, reduceCtorEq, and_self, ownRes]; rfl) ?_)
  rfl

theorem leN_drop {l : List UInt8} {j : Nat} {b : UInt8} (h : l[j]? = some b) : leN (l.drop j) = leN (l.drop (j + 1)) * 256 + b.toNat := by
  have hlt := (List.getElem?_eq_some_iff.1 h).1
  rw [List.drop_eq_getElem_cons hlt]
  have : l[j] = b := by have := List.getElem?_eq_getElem hlt; rw [h] at this; injection this with this; exact this.symm
  rw [this]
  simp only [leN]
  omega

theorem ref_word_fc (bs : List UInt8) (a : Nat) (ha : a ≤ bs.length) (s : Nat) (hs : s ≤ 8) (hb : bs.length < 4611686018427387904) : FC Try.prog i_cartoucheref1_Word [.slice (bs.map encB), .int .i64 (a : Int), .int .i64 (s : Int)] (· = encGV (rdAt bs a s)) := by
  (refine .of F_cartoucheref1_Word T_cartoucheref1_Word L_cartoucheref1_Word ?_; unfold A_cartoucheref1_Word; simp only [args0, List.map_cons, List.map_nil, List.zipIdx_cons, List.zipIdx_nil])
  (refine wpc_seq ?_); (refine wpc_region fun Kr hKr => ?_; simp only [go_sem, ↓reduceIte, Nat.reduceEqDiff, Nat.reduceAdd, Nat.reduceSub, Nat.reduceLeDiff, Nat.reduceMul, reduceCtorEq, Nat.reduceBEq, Int.reduceLT, Int.reduceLE, Int.reduceNeg, Int.reduceEq]; with_reducible refine hKr _ ?_; clear hKr Kr)
  have w1 : IntKind.i64.wrap ((bs.length : Int) - (a : Int)) = ((bs.length - a : Nat) : Int) := by rw [wrap_i64 (by omega) (by omega)]; omega
  have hin : (0 : Int) ≤ (a : Int) ∧ (a : Int) ≤ bs.length := ⟨by omega, by omega⟩
  (refine wpc_seq ?_); (refine wpc_seq ?_); (refine wpc_region fun Kr hKr => ?_; simp only [go_sem, ↓reduceIte, Nat.reduceEqDiff, Nat.reduceAdd, Nat.reduceSub, Nat.reduceLeDiff, Nat.reduceMul, reduceCtorEq, Nat.reduceBEq, Int.reduceLT, Int.reduceLE, Int.reduceNeg, Int.reduceEq, w1]; with_reducible refine hKr _ ?_; clear hKr Kr)
  by_cases hn : bs.length - a < s
  · (refine wpc_true (by simp only [ev, lk, Nat.reduceEqDiff, ↓reduceIte, decide_true, decide_false, Bool.not_true, Bool.not_false, Bool.true_and, Bool.false_and, Bool.and_true, Bool.and_false, Bool.or_false, Bool.false_or, Bool.true_or, Bool.or_true, Bool.and_self, Bool.or_self, Int.cast_ofNat_Int, Int.natCast_inj, Int.ofNat_lt, Int.ofNat_le, Int.natCast_nonneg, eq_self, Int.reduceLT, Int.reduceLE, Int.reduceEq, Bool.false_eq_true, if_true, if_false, reduceCtorEq, and_self, and_true, true_and, and_false, false_and, hn]) ?_)
    (refine wpc_seq ?_); (refine wpc_region fun Kr hKr => ?_; simp only [go_sem, ↓reduceIte, Nat.reduceEqDiff, Nat.reduceAdd, Nat.reduceSub, Nat.reduceLeDiff, Nat.reduceMul, reduceCtorEq, Nat.reduceBEq, Int.reduceLT, Int.reduceLE, Int.reduceNeg, Int.reduceEq]; with_reducible refine hKr _ ?_; clear hKr Kr)
    (refine endsV (x := _) (σ' := _) (by simp only [retOf, retVals, oneOrTup, callArgs, callArgsL, evAll, ev, lk, shutAll, shut, nrm, nrm0, nrm1, upd, ↓reduceIte, Nat.reduceEqDiff, List.map_nil, List.map_cons, eq_self, if_true, if_false, reduceCtorEq, and_self, ownRes]; rfl) ?_)
    simp only [rdAt, if_pos hin, Int.toNat_natCast, if_pos hn]; rfl
  (refine wpc_false (by simp only [ev, lk, Nat.reduceEqDiff, ↓reduceIte, decide_true, decide_false, Bool.not_true, Bool.not_false, Bool.true_and, Bool.false_and, Bool.and_true, Bool.and_false, Bool.or_false, Bool.false_or, Bool.true_or, Bool.or_true, Bool.and_self, Bool.or_self, Int.cast_ofNat_Int, Int.natCast_inj, Int.ofNat_lt, Int.ofNat_le, Int.natCast_nonneg, eq_self, Int.reduceLT, Int.reduceLE, Int.reduceEq, Bool.false_eq_true, if_true, if_false, reduceCtorEq, and_self, and_true, true_and, and_false, false_and, hn]) ?_)
  (refine wpc_skip' ?_)
  have w2 : IntKind.i64.wrap ((s : Int) - 1) = (s : Int) - 1 := wrap_i64 (by omega) (by omega)
  (refine wpc_seq ?_); (refine wpc_region fun Kr hKr => ?_; simp only [go_sem, ↓reduceIte, Nat.reduceEqDiff, Nat.reduceAdd, Nat.reduceSub, Nat.reduceLeDiff, Nat.reduceMul, reduceCtorEq, Nat.reduceBEq, Int.reduceLT, Int.reduceLE, Int.reduceNeg, Int.reduceEq]; with_reducible refine hKr _ ?_; clear hKr Kr)
  (refine wpc_seq ?_); (refine wpc_seq ?_); (refine wpc_region fun Kr hKr => ?_; simp only [go_sem, ↓reduceIte, Nat.reduceEqDiff, Nat.reduceAdd, Nat.reduceSub, Nat.reduceLeDiff, Nat.reduceMul, reduceCtorEq, Nat.reduceBEq, Int.reduceLT, Int.reduceLE, Int.reduceNeg, Int.reduceEq, w2]; with_reducible refine hKr _ ?_; clear hKr Kr)
  show wpc _ (.block 0 (.loop _)) _ _
  have hWl : ((bs.drop a).take s).length = s := by simp; omega
  refine wpc_loop (fun m st => ∃ j : Nat, m = j ∧ j ≤ s ∧ st.σ = [] ∧ lk st.ρ 0 = some (.iv (.slice (bs.map encB))) ∧ lk st.ρ 1 = some (.iv (.int .i64 (a : Int))) ∧ lk st.ρ 2 = some (.iv (.int .i64 (s : Int))) ∧ lk st.ρ 9 = some (.iv (.int .u64 (leN (((bs.drop a).take s).drop j) : Nat))) ∧
      lk st.ρ 10 = some (.iv (.int .i64 ((j : Int) - 1)))) s ⟨s, rfl, by omega, rfl, ?_, ?_, ?_, ?_, ?_⟩ ?_
  · simp only [go_sem, ↓reduceIte, Nat.reduceEqDiff, Nat.reduceAdd, Nat.reduceSub, Nat.reduceLeDiff, Nat.reduceMul, reduceCtorEq, Nat.reduceBEq, Int.reduceLT, Int.reduceLE, Int.reduceNeg, Int.reduceEq]
  · simp only [go_sem, ↓reduceIte, Nat.reduceEqDiff, Nat.reduceAdd, Nat.reduceSub, Nat.reduceLeDiff, Nat.reduceMul, reduceCtorEq, Nat.reduceBEq, Int.reduceLT, Int.reduceLE, Int.reduceNeg, Int.reduceEq]
  · simp only [go_sem, ↓reduceIte, Nat.reduceEqDiff, Nat.reduceAdd, Nat.reduceSub, Nat.reduceLeDiff, Nat.reduceMul, reduceCtorEq, Nat.reduceBEq, Int.reduceLT, Int.reduceLE, Int.reduceNeg, Int.reduceEq]
  · rw [List.drop_eq_nil_of_le (by omega)]; simp only [go_sem, ↓reduceIte, Nat.reduceEqDiff, Nat.reduceAdd, Nat.reduceSub, Nat.reduceLeDiff, Nat.reduceMul, reduceCtorEq, Nat.reduceBEq, Int.reduceLT, Int.reduceLE, Int.reduceNeg, Int.reduceEq]; rfl
  · simp only [go_sem, ↓reduceIte, Nat.reduceEqDiff, Nat.reduceAdd, Nat.reduceSub, Nat.reduceLeDiff, Nat.reduceMul, reduceCtorEq, Nat.reduceBEq, Int.reduceLT, Int.reduceLE, Int.reduceNeg, Int.reduceEq]
  rintro m st ⟨j, rfl, hj, hσ, h0, h1, h2, h9, h10⟩ K hK
  obtain ⟨ρ, σ⟩ := st
  simp only at hσ h0 h1 h2 h9 h10
  subst hσ
  (refine wpc_seq ?_); (refine wpc_seq ?_); (refine wpc_region fun Kr hKr => ?_; simp only [go_sem, ↓reduceIte, Nat.reduceEqDiff, Nat.reduceAdd, Nat.reduceSub, Nat.reduceLeDiff, Nat.reduceMul, reduceCtorEq, Nat.reduceBEq, Int.reduceLT, Int.reduceLE, Int.reduceNeg, Int.reduceEq, h10]; with_reducible refine hKr _ ?_; clear hKr Kr)
  by_cases hlt : m = 0
  · subst hlt
    have g : ¬ ((0 : Int) ≤ ((0 : Nat) : Int) - 1) := by omega
    simp only [Int.cast_ofNat_Int] at g h10
    (refine wpc_false (by simp only [ev, lk, Nat.reduceEqDiff, ↓reduceIte, decide_true, decide_false, Bool.not_true, Bool.not_false, Bool.true_and, Bool.false_and, Bool.and_true, Bool.and_false, Bool.or_false, Bool.false_or, Bool.true_or, Bool.or_true, Bool.and_self, Bool.or_self, Int.cast_ofNat_Int, Int.natCast_inj, Int.ofNat_lt, Int.ofNat_le, Int.natCast_nonneg, eq_self, Int.reduceLT, Int.reduceLE, Int.reduceEq, Bool.false_eq_true, if_true, if_false, reduceCtorEq, and_self, and_true, true_and, and_false, false_and, g]) ?_)
    show wpc _ (.seq _ _) _ _
    have w3 : IntKind.i64.wrap ((a : Int) + (s : Int)) = ((a + s : Nat) : Int) := by rw [wrap_i64 (by omega) (by omega)]; omega
    rw [List.drop_zero] at h9
    (refine wpc_seq ?_); (refine wpc_region fun Kr hKr => ?_; simp only [go_sem, ↓reduceIte, Nat.reduceEqDiff, Nat.reduceAdd, Nat.reduceSub, Nat.reduceLeDiff, Nat.reduceMul, reduceCtorEq, Nat.reduceBEq, Int.reduceLT, Int.reduceLE, Int.reduceNeg, Int.reduceEq, h1, h2, h9, w3]; with_reducible refine hKr _ ?_; clear hKr Kr)
    (refine endsV (x := _) (σ' := _) (by simp only [retOf, retVals, oneOrTup, callArgs, callArgsL, evAll, ev, lk, shutAll, shut, nrm, nrm0, nrm1, upd, ↓reduceIte, Nat.reduceEqDiff, List.map_nil, List.map_cons, eq_self, if_true, if_false, reduceCtorEq, and_self, ownRes]; rfl) ?_)
    simp only [rdAt, if_pos hin, Int.toNat_natCast, if_neg hn]; rfl
  · have g : (0 : Int) ≤ (m : Int) - 1 := by omega
    obtain ⟨j, rfl⟩ : ∃ j, m = j + 1 := ⟨m - 1, by omega⟩
    have ej : ((j + 1 : Nat) : Int) - 1 = (j : Int) := by omega
    rw [ej] at h10 g
    (refine wpc_true (by simp only [ev, lk, Nat.reduceEqDiff, ↓reduceIte, decide_true, decide_false, Bool.not_true, Bool.not_false, Bool.true_and, Bool.false_and, Bool.and_true, Bool.and_false, Bool.or_false, Bool.false_or, Bool.true_or, Bool.or_true, Bool.and_self, Bool.or_self, Int.cast_ofNat_Int, Int.natCast_inj, Int.ofNat_lt, Int.ofNat_le, Int.natCast_nonneg, eq_self, Int.reduceLT, Int.reduceLE, Int.reduceEq, Bool.false_eq_true, if_true, if_false, reduceCtorEq, and_self, and_true, true_and, and_false, false_and, ej, g]) ?_)
    (refine wpc_skip' ?_)
    (refine wpc_seq ?_)
    have hai : a + j < bs.length := by omega
    obtain ⟨b, hbb⟩ : ∃ b, bs[a + j]? = some b := ⟨_, List.getElem?_eq_getElem hai⟩
    have hm : (bs.map encB)[a + j]? = some (encB b) := by simp [hbb]
    have hd : ((bs.drop a).take s)[j]? = some b := by rw [List.getElem?_take, if_pos (by omega), List.getElem?_drop]; exact hbb
    have hbl := b.toNat_lt
    have hld := leN_drop hd
    have hL := leN_lt (((bs.drop a).take s).drop j)
    have hlen : (((bs.drop a).take s).drop j).length ≤ 8 := by rw [List.length_drop]; omega
    have hP := Nat.pow_le_pow_right (n := 256) (by omega) hlen
    have e8 : (256 : Nat) ^ 8 = 18446744073709551616 := by decide
    have w3 : IntKind.i64.wrap ((a : Int) + (j : Int)) = ((a + j : Nat) : Int) := by rw [wrap_i64 (by omega) (by omega)]; omega
    have w4 : IntKind.u64.wrap (b.toNat : Int) = (b.toNat : Int) := wrap_u64 (by omega) (by omega)
    have w5 : IntKind.u64.wrap (IntKind.u64.wrap (((leN (((bs.drop a).take s).drop (j + 1)) : Nat) : Int) * 256) + (b.toNat : Int)) = ((leN (((bs.drop a).take s).drop j) : Nat) : Int) := by
      rw [wrap_u64 (n := _ * 256) (by omega) (by omega), wrap_u64 (by omega) (by omega)]; omega
    have w6 : IntKind.i64.wrap ((j : Int) - 1) = (j : Int) - 1 := wrap_i64 (by omega) (by omega)
    (refine wpc_region fun Kr hKr => ?_; simp only [go_sem, ↓reduceIte, Nat.reduceEqDiff, Nat.reduceAdd, Nat.reduceSub, Nat.reduceLeDiff, Nat.reduceMul, reduceCtorEq, Nat.reduceBEq, Int.reduceLT, Int.reduceLE, Int.reduceNeg, Int.reduceEq, h0, h1, h9, h10, w3, hm, encB, w4, w5]; with_reducible refine hKr _ ?_; clear hKr Kr)
    (refine wpc_region fun Kr hKr => ?_; simp only [go_sem, ↓reduceIte, Nat.reduceEqDiff, Nat.reduceAdd, Nat.reduceSub, Nat.reduceLeDiff, Nat.reduceMul, reduceCtorEq, Nat.reduceBEq, Int.reduceLT, Int.reduceLE, Int.reduceNeg, Int.reduceEq, h10, w6]; with_reducible refine hKr _ ?_; clear hKr Kr)
    refine hK _ j (by omega) ⟨j, rfl, by omega, rfl, ?_, ?_, ?_, ?_, ?_⟩
    · simp only [go_sem, ↓reduceIte, Nat.reduceEqDiff, Nat.reduceAdd, Nat.reduceSub, Nat.reduceLeDiff, Nat.reduceMul, reduceCtorEq, Nat.reduceBEq, Int.reduceLT, Int.reduceLE, Int.reduceNeg, Int.reduceEq, h0]
    · simp only [go_sem, ↓reduceIte, Nat.reduceEqDiff, Nat.reduceAdd, Nat.reduceSub, Nat.reduceLeDiff, Nat.reduceMul, reduceCtorEq, Nat.reduceBEq, Int.reduceLT, Int.reduceLE, Int.reduceNeg, Int.reduceEq, h1]
    · simp only [go_sem, ↓reduceIte, Nat.reduceEqDiff, Nat.reduceAdd, Nat.reduceSub, Nat.reduceLeDiff, Nat.reduceMul, reduceCtorEq, Nat.reduceBEq, Int.reduceLT, Int.reduceLE, Int.reduceNeg, Int.reduceEq, h2]
    · simp only [go_sem, ↓reduceIte, Nat.reduceEqDiff, Nat.reduceAdd, Nat.reduceSub, Nat.reduceLeDiff, Nat.reduceMul, reduceCtorEq, Nat.reduceBEq, Int.reduceLT, Int.reduceLE, Int.reduceNeg, Int.reduceEq]
    · simp only [go_sem, ↓reduceIte, Nat.reduceEqDiff, Nat.reduceAdd, Nat.reduceSub, Nat.reduceLeDiff, Nat.reduceMul, reduceCtorEq, Nat.reduceBEq, Int.reduceLT, Int.reduceLE, Int.reduceNeg, Int.reduceEq]
end Go.Proofs.Ytfmeedphpcjkmaa.Ag
