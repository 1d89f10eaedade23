/- awake; numbers that came in. -/
import Derived.Test.YtfmeedphpcjkmaaWVar
-- sem
set_option linter.unusedVariables false
set_option linter.unusedSimpArgs false
namespace Go.Proofs.Ytfmeedphpcjkmaa.Ag
attribute [local go_sem] runTo_nil runTo_n runTo_g conT_some conT_none conB_true conB_false conG_bool runI_nil runI_n runI_g conTI_some conTI_none conBI_some conBI_none conGI_bool runD_nil runD_n runD_g conDB_some conDB_none conDF_some conDF_none conD_true conD_false conDW_true conDW_false conDG_bool gρ openV pickB opds aop ev evOpt evAll callArgs callArgsL ownRes shutAll shut nrm nrm0 nrm1 St.put lk upd nxt bin2 un1 intOp lenOf isStr isBoolIV notNil IV.cells fldA fldV partIV partTV loadOf storeOf cellsOf TV.cells? mkAgg ivsOf splice fillTV dstOf dstOf0 srcOf srcOf0 unIf isNilS condP retOf retVals oneOrTup thenC blockC List.map_cons List.map_nil List.length_cons List.length_nil List.length_map Option.map_some Bool.not_true Bool.not_false Bool.true_and Bool.false_and Bool.and_true Bool.and_false Bool.false_eq_true if_true if_false decide_true decide_false List.contains_nil List.contains_cons eq_self Int.toNat_natCast Option.getD_some Option.getD_none and_true true_and List.getElem?_cons_zero List.getElem?_cons_succ List.drop_zero List.drop_succ_cons List.take_succ_cons List.take_zero List.nil_append List.cons_append wpr_nil wprd_nil Int.natCast_nonneg Int.natCast_inj Int.ofNat_lt Int.ofNat_le Bool.cond_false_right Bool.cond_true_left Bool.cond_false_left Bool.cond_true_right cond_true cond_false beq_true beq_false Bool.not_eq_true beq_self_eq_true oneSize Nat.mul_one List.length_append Int.toNat_zero List.replicate_zero Int.cast_ofNat_Int Int.mul_one Bool.or_false Bool.false_or Bool.true_or Bool.or_true Bool.and_self Bool.or_self
attribute [-go_sem] IntKind.bits

theorem pvL300 : pvL 300 = [172, 2] := by
  rw [pvL_big (by omega), pvL_small (by omega)]; rfl
theorem awake_fc : FC Try.prog i_cartouchelaw1_awake [] (· = .bool true) := by
  (refine .of F_cartouchelaw1_awake T_cartouchelaw1_awake L_cartouchelaw1_awake ?_; unfold A_cartouchelaw1_awake; simp only [args0, List.map_cons, List.map_nil, List.zipIdx_cons, List.zipIdx_nil])
  (refine wpc_seq ?_); (refine wpc_region fun Kr hKr => ?_; simp only [go_sem, ↓reduceIte, Nat.reduceEqDiff, Nat.reduceAdd, Nat.reduceSub, Nat.reduceLeDiff, Nat.reduceMul, reduceCtorEq, Nat.reduceBEq, Int.reduceLT, Int.reduceLE, Int.reduceNeg, Int.reduceEq]; with_reducible refine hKr _ ?_; clear hKr Kr)
  have hg := getVarint_fc [172, 2, 9] 0 (by decide)
  have e1 : gvAt [172, 2, 9] 0 = (300, 2, 0) := by decide
  rw [e1] at hg
  have e2 : ([172, 2, 9] : List UInt8).map encB = [.int .u8 172, .int .u8 2, .int .u8 9] := rfl
  rw [e2] at hg
  have hp := putVarint_fc 300 (by omega)
  have hs := same_fc [172, 2] [172, 2]
  have e3 : ([172, 2] : List UInt8).map encB = [.int .u8 172, .int .u8 2] := rfl
  rw [pvL300, e3] at hp
  rw [e3] at hs
  simp only [decide_true] at hs
  (refine wpc_seq ?_); (refine wpc_region fun Kr hKr => ?_; simp only [go_sem, ↓reduceIte, Nat.reduceEqDiff, Nat.reduceAdd, Nat.reduceSub, Nat.reduceLeDiff, Nat.reduceMul, reduceCtorEq, Nat.reduceBEq, Int.reduceLT, Int.reduceLE, Int.reduceNeg, Int.reduceEq])
  (refine wpr_callE (hg) (σ' := _) (by simp only [callArgs, callArgsL, evAll, ev, lk, shutAll, shut, nrm, nrm0, nrm1, upd, ↓reduceIte, Nat.reduceEqDiff, List.map_nil, List.map_cons, eq_self, if_true, if_false, reduceCtorEq, and_self, ownRes, encGV]; rfl) ?_; simp only [go_sem, ↓reduceIte, Nat.reduceEqDiff, Nat.reduceAdd, Nat.reduceSub, Nat.reduceLeDiff, Nat.reduceMul, reduceCtorEq, Nat.reduceBEq, Int.reduceLT, Int.reduceLE, Int.reduceNeg, Int.reduceEq, encGV])
  (with_reducible refine hKr _ ?_; clear hKr Kr)
  (refine wpc_seq ?_); (refine wpc_region fun Kr hKr => ?_; simp only [go_sem, ↓reduceIte, Nat.reduceEqDiff, Nat.reduceAdd, Nat.reduceSub, Nat.reduceLeDiff, Nat.reduceMul, reduceCtorEq, Nat.reduceBEq, Int.reduceLT, Int.reduceLE, Int.reduceNeg, Int.reduceEq])
  (refine wpr_callE (hp) (σ' := _) (by simp only [callArgs, callArgsL, evAll, ev, lk, shutAll, shut, nrm, nrm0, nrm1, upd, ↓reduceIte, Nat.reduceEqDiff, List.map_nil, List.map_cons, eq_self, if_true, if_false, reduceCtorEq, and_self, ownRes]; rfl) ?_; simp only [go_sem, ↓reduceIte, Nat.reduceEqDiff, Nat.reduceAdd, Nat.reduceSub, Nat.reduceLeDiff, Nat.reduceMul, reduceCtorEq, Nat.reduceBEq, Int.reduceLT, Int.reduceLE, Int.reduceNeg, Int.reduceEq])
  (refine wpr_callE (hs) (σ' := _) (by simp only [callArgs, callArgsL, evAll, ev, lk, shutAll, shut, nrm, nrm0, nrm1, upd, ↓reduceIte, Nat.reduceEqDiff, List.map_nil, List.map_cons, eq_self, if_true, if_false, reduceCtorEq, and_self, ownRes]; rfl) ?_; simp only [go_sem, ↓reduceIte, Nat.reduceEqDiff, Nat.reduceAdd, Nat.reduceSub, Nat.reduceLeDiff, Nat.reduceMul, reduceCtorEq, Nat.reduceBEq, Int.reduceLT, Int.reduceLE, Int.reduceNeg, Int.reduceEq])
  (with_reducible refine hKr _ ?_; clear hKr Kr)
  (refine endsV (x := _) (σ' := _) (by simp only [retOf, retVals, oneOrTup, callArgs, callArgsL, evAll, ev, lk, shutAll, shut, nrm, nrm0, nrm1, upd, ↓reduceIte, Nat.reduceEqDiff, List.map_nil, List.map_cons, eq_self, if_true, if_false, reduceCtorEq, and_self, ownRes]; rfl) ?_)
  rfl

theorem wf_u64 {b : Int} (h : (Lit.int .u64 b).wf = true) : ∃ n : Nat, b = (n : Int) ∧ n < 18446744073709551616 := by
  have h' : 0 ≤ b ∧ b ≤ 18446744073709551615 := by simpa [Lit.wf, IntKind.min, IntKind.max, IntKind.signed, IntKind.bits] using h
  exact ⟨b.toNat, by omega, by omega⟩
theorem wf_i64 {b : Int} (h : (Lit.int .i64 b).wf = true) : -9223372036854775808 ≤ b ∧ b < 9223372036854775808 := by
  have h' : -9223372036854775808 ≤ b ∧ b ≤ 9223372036854775807 := by simpa [Lit.wf, IntKind.min, IntKind.max, IntKind.signed, IntKind.bits] using h
  omega
theorem gvL_lt : ∀ (bs : List UInt8) (i n : Nat), i ≤ 9 → n < 128 ^ i → (gvL bs i n).1 < 18446744073709551616
  | [], i, n, hi, hn => by simp [gvL]
  | b :: r, i, n, hi, hn => by
    have hp := pow_small hi
    unfold gvL
    split
    · simp
    · rename_i hb
      have hm : b.toNat % 128 * 128 ^ i ≤ 127 * 128 ^ i := Nat.mul_le_mul_right _ (by omega)
      split
      · rename_i hl
        by_cases h9 : i = 9
        · subst h9
          have : b.toNat ≤ 1 := by omega
          have e : (128 : Nat) ^ 9 = 9223372036854775808 := by decide
          rw [e] at *
          have : b.toNat % 128 ≤ 1 := by omega
          have : b.toNat % 128 * 9223372036854775808 ≤ 1 * 9223372036854775808 := Nat.mul_le_mul_right _ this
          show n + b.toNat % 128 * 9223372036854775808 < _
          omega
        · have h8 : 128 ^ i ≤ 128 ^ 8 := Nat.pow_le_pow_right (by omega) (by omega)
          have e : (128 : Nat) ^ 8 = 72057594037927936 := by decide
          rw [e] at h8
          show n + b.toNat % 128 * 128 ^ i < _
          omega
      · rename_i hl
        have : i ≠ 9 := by intro h; apply hb; exact ⟨h, by omega⟩
        exact gvL_lt r (i + 1) _ (by omega) (by rw [Nat.pow_succ]; omega)
theorem gvL_next : ∀ (bs : List UInt8) (i n m k : Nat), gvL bs i n = (m, k, 0) → i < k ∧ k ≤ i + bs.length
  | [], i, n, m, k, h => by simp [gvL] at h
  | b :: r, i, n, m, k, h => by
    unfold gvL at h
    split at h
    · simp at h
    · split at h
      · simp at h
        simp; omega
      · have := gvL_next r (i + 1) _ m k h
        simp; omega
theorem gvAt_lt (bs : List UInt8) (k : Int) : (gvAt bs k).1 < 18446744073709551616 := by
  unfold gvAt
  split
  · split
    · rename_i n k' h
      have := gvL_lt (bs.drop k.toNat) 0 0 (by omega) (by simp)
      rw [h] at this
      exact this
    · simp
  · simp
theorem gvAt_next {bs : List UInt8} {k : Int} {n p : Nat} (h : gvAt bs k = (n, p, 0)) : 0 ≤ k ∧ k < p ∧ p ≤ bs.length := by
  unfold gvAt at h
  split at h
  · rename_i hk
    split at h
    · rename_i m j hg
      have := gvL_next _ _ _ _ _ hg
      simp at h
      simp at this
      omega
    · rename_i m j e he hg
      simp at h
      exact (he h.2.2).elim
  · simp at h
theorem gvAt_zero {bs : List UInt8} {k : Int} {n p e : Nat} (h : gvAt bs k = (n, p, e + 1)) : n = 0 ∧ p = 0 := by
  unfold gvAt at h
  split at h
  · split at h
    · simp at h
    · simp at h; omega
  · simp at h; omega

end Go.Proofs.Ytfmeedphpcjkmaa.Ag
