/- The walk over bits.Len64, wire.Size. -/
import Derived.Test.YtfmeedphpcjkmaaWPut
-- sem
set_option linter.unusedVariables false
set_option linter.unusedSimpArgs false
set_option maxRecDepth 8000
namespace Go.Proofs.Ytfmeedphpcjkmaa.Ag
attribute [local go_sem] runTo_nil runTo_n runTo_g conT_some conT_none conB_true conB_false conG_bool runI_nil runI_n runI_g conTI_some conTI_none conBI_some conBI_none conGI_bool runD_nil runD_n runD_g conDB_some conDB_none conDF_some conDF_none conD_true conD_false conDW_true conDW_false conDG_bool gρ openV pickB opds aop ev evOpt evAll callArgs callArgsL ownRes shutAll shut nrm nrm0 nrm1 St.put lk upd nxt bin2 un1 intOp lenOf isStr isBoolIV notNil IV.cells fldA fldV partIV partTV loadOf storeOf cellsOf TV.cells? mkAgg ivsOf splice fillTV dstOf dstOf0 srcOf srcOf0 unIf isNilS condP retOf retVals oneOrTup thenC blockC List.map_cons List.map_nil List.length_cons List.length_nil List.length_map Option.map_some Bool.not_true Bool.not_false Bool.true_and Bool.false_and Bool.and_true Bool.and_false Bool.false_eq_true if_true if_false decide_true decide_false List.contains_nil List.contains_cons eq_self Int.toNat_natCast Option.getD_some Option.getD_none and_true true_and List.getElem?_cons_zero List.getElem?_cons_succ List.drop_zero List.drop_succ_cons List.take_succ_cons List.take_zero List.nil_append List.cons_append wpr_nil wprd_nil Int.natCast_nonneg Int.natCast_inj Int.ofNat_lt Int.ofNat_le Bool.cond_false_right Bool.cond_true_left Bool.cond_false_left Bool.cond_true_right cond_true cond_false beq_true beq_false Bool.not_eq_true beq_self_eq_true oneSize Nat.mul_one List.length_append Int.toNat_zero List.replicate_zero Int.cast_ofNat_Int Int.mul_one Bool.or_false Bool.false_or Bool.true_or Bool.or_true Bool.and_self Bool.or_self
attribute [-go_sem] IntKind.bits

/-- 'r' is how many binary digits 'n' has. -/
def BL (n r : Nat) : Prop := n < 2 ^ r ∧ (0 < r → 2 ^ (r - 1) ≤ n)

def lenTab : List UInt8 := [0, 1, 2, 2, 3, 3, 3, 3, 4, 4, 4, 4, 4, 4, 4, 4, 5, 5, 5, 5, 5, 5, 5, 5, 5, 5, 5, 5, 5, 5, 5, 5, 6, 6, 6, 6, 6, 6, 6, 6, 6, 6, 6, 6, 6, 6, 6, 6, 6, 6, 6, 6, 6, 6, 6, 6, 6, 6, 6, 6, 6, 6, 6, 6, 7, 7, 7, 7, 7, 7, 7, 7, 7, 7, 7, 7, 7, 7, 7, 7, 7, 7, 7, 7, 7, 7, 7, 7, 7, 7, 7, 7, 7, 7, 7, 7, 7, 7, 7, 7, 7, 7, 7, 7, 7, 7, 7, 7, 7, 7, 7, 7, 7, 7, 7, 7, 7, 7, 7, 7, 7, 7, 7, 7, 7, 7, 7, 7, 8, 8, 8, 8, 8, 8, 8, 8, 8, 8, 8, 8, 8, 8, 8, 8, 8, 8, 8, 8, 8, 8, 8, 8, 8, 8, 8, 8, 8, 8, 8, 8, 8, 8, 8, 8, 8, 8, 8, 8, 8, 8, 8, 8, 8, 8, 8, 8, 8, 8, 8, 8, 8, 8, 8, 8, 8, 8, 8, 8, 8, 8, 8, 8, 8, 8, 8, 8, 8, 8, 8, 8, 8, 8, 8, 8, 8, 8, 8, 8, 8, 8, 8, 8, 8, 8, 8, 8, 8, 8, 8, 8, 8, 8, 8, 8, 8, 8, 8, 8, 8, 8, 8, 8, 8, 8, 8, 8, 8, 8, 8, 8, 8, 8, 8, 8, 8, 8, 8, 8, 8, 8, 8, 8, 8, 8, 8, 8]

theorem lenTab_ok : ∀ m : Fin 256, lenTab[m.val]?.isSome = true ∧ m.val < 2 ^ (lenTab.getD m.val 0).toNat ∧ (0 < (lenTab.getD m.val 0).toNat → 2 ^ ((lenTab.getD m.val 0).toNat - 1) ≤ m.val) := by decide +kernel

theorem BL.up {n r k : Nat} (h : BL (n / 2 ^ k) r) (hk : 2 ^ k ≤ n) : BL n (k + r) := by
  obtain ⟨h1, h2⟩ := h
  have hp : 0 < 2 ^ k := Nat.pow_pos (by omega)
  have h3 : n / 2 ^ k ≠ 0 := by
    intro h; rw [Nat.div_eq_zero_iff] at h; omega
  have hr : 0 < r := by
    cases r with
    | zero => simp at h1; omega
    | succ r => omega
  refine ⟨?_, fun _ => ?_⟩
  · rw [Nat.pow_add, Nat.mul_comm]
    exact (Nat.div_lt_iff_lt_mul hp).1 h1
  · have := h2 hr
    rw [show k + r - 1 = (r - 1) + k by omega, Nat.pow_add]
    exact (Nat.le_div_iff_mul_le hp).1 this

theorem pvL_bl : ∀ r n : Nat, BL n r → (pvL n).length = (max 1 r + 6) / 7 := by
  intro r
  induction r using Nat.strongRecOn with
  | ind r ih =>
    intro n h
    by_cases hr : r ≤ 7
    · have : n < 128 := Nat.lt_of_lt_of_le h.1 (by
        have := Nat.pow_le_pow_right (n := 2) (by omega) hr
        simpa using this)
      rw [pvL_small this]; simp; omega
    · have h2 := h.2 (by omega)
      have hn : 128 ≤ n := Nat.le_trans (by
        have := Nat.pow_le_pow_right (n := 2) (by omega) (show 7 ≤ r - 1 by omega)
        simpa using this) h2
      rw [pvL_big hn, List.length_cons, ih (r - 7) (by omega) (n / 128)]
      · omega
      · refine ⟨?_, fun _ => ?_⟩
        · refine (Nat.div_lt_iff_lt_mul (by omega)).2 ?_
          have : 2 ^ (r - 7) * 128 = 2 ^ r := by rw [show 128 = 2 ^ 7 by decide, ← Nat.pow_add]; congr 1; omega
          rw [this]; exact h.1
        · refine (Nat.le_div_iff_mul_le (by omega)).2 ?_
          have : 2 ^ (r - 7 - 1) * 128 = 2 ^ (r - 1) := by rw [show 128 = 2 ^ 7 by decide, ← Nat.pow_add]; congr 1; omega
          rw [this]; exact h2

theorem shrK (m k : Nat) (hk : k ≤ 64) : Int.fdiv (m : Int) (2 ^ (min ((k : Int).toNat) IntKind.u64.bits)) = ((m / 2 ^ k : Nat) : Int) := by
  have : min ((k : Int).toNat) IntKind.u64.bits = k := by rw [u64_bits]; omega
  rw [this, show ((2 : Int) ^ k) = ((2 ^ k : Nat) : Int) by simp]
  rw [Int.fdiv_eq_ediv_of_nonneg _ (Int.natCast_nonneg _)]; exact (Int.natCast_ediv _ _).symm

theorem len64_fc (n : Nat) (hn : n < 18446744073709551616) : FC Try.prog i_bits_Len64 [.int .u64 (n : Int)] (fun x => ∃ r : Nat, x = .int .i64 (r : Int) ∧ BL n r ∧ r ≤ 64) := by
  (refine .of F_bits_Len64 T_bits_Len64 L_bits_Len64 ?_; unfold A_bits_Len64; simp only [args0, List.map_cons, List.map_nil, List.zipIdx_cons, List.zipIdx_nil])
  (refine wpc_seq ?_); (refine wpc_region fun Kr hKr => ?_; simp only [go_sem, ↓reduceIte, Nat.reduceEqDiff, Nat.reduceAdd, Nat.reduceSub, Nat.reduceLeDiff, Nat.reduceMul, reduceCtorEq, Nat.reduceBEq, Int.reduceLT, Int.reduceLE, Int.reduceNeg, Int.reduceEq]; with_reducible refine hKr _ ?_; clear hKr Kr)
  (refine wpc_seq ?_); (refine wpc_seq ?_); (refine wpc_region fun Kr hKr => ?_; simp only [go_sem, ↓reduceIte, Nat.reduceEqDiff, Nat.reduceAdd, Nat.reduceSub, Nat.reduceLeDiff, Nat.reduceMul, reduceCtorEq, Nat.reduceBEq, Int.reduceLT, Int.reduceLE, Int.reduceNeg, Int.reduceEq]; with_reducible refine hKr _ ?_; clear hKr Kr)
  have e1 : ((4294967296 : Int) ≤ (n : Int)) ↔ 4294967296 ≤ n := by omega
  refine wpc_to (fun s => ∃ m k : Nat, m < 4294967296 ∧ k ≤ 32 ∧ (∀ r, BL m r → BL n (k + r)) ∧ s.σ = [] ∧ lk s.ρ 0 = some (.iv (.int .u64 (m : Int))) ∧ lk s.ρ 2 = some (.iv (.int .i64 (k : Int)))) ?_ ?_
  · by_cases h : 4294967296 ≤ n
    · (refine wpc_true (by simp only [ev, lk, Nat.reduceEqDiff, ↓reduceIte, decide_true, decide_false, Bool.not_true, Bool.not_false, Bool.true_and, Bool.false_and, Bool.and_true, Bool.and_false, Bool.or_false, Bool.false_or, Bool.true_or, Bool.or_true, Bool.and_self, Bool.or_self, Int.cast_ofNat_Int, Int.natCast_inj, Int.ofNat_lt, Int.ofNat_le, Int.natCast_nonneg, eq_self, Int.reduceLT, Int.reduceLE, Int.reduceEq, Bool.false_eq_true, if_true, if_false, reduceCtorEq, and_self, and_true, true_and, and_false, false_and, e1, h]) ?_)
      have g : ¬ ((32 : Int) < 0) := by omega
      have hs := shrK n 32 (by omega)
      (refine wpc_seq ?_); (refine wpc_region fun Kr hKr => ?_; simp only [go_sem, ↓reduceIte, Nat.reduceEqDiff, Nat.reduceAdd, Nat.reduceSub, Nat.reduceLeDiff, Nat.reduceMul, reduceCtorEq, Nat.reduceBEq, Int.reduceLT, Int.reduceLE, Int.reduceNeg, Int.reduceEq, shfOp, g, show Int.fdiv (n : Int) (2 ^ (min ((32 : Int).toNat) IntKind.u64.bits)) = ((n / 2 ^ 32 : Nat) : Int) from hs]; with_reducible refine hKr _ ?_; clear hKr Kr)
      (refine wpc_region fun Kr hKr => ?_; simp only [go_sem, ↓reduceIte, Nat.reduceEqDiff, Nat.reduceAdd, Nat.reduceSub, Nat.reduceLeDiff, Nat.reduceMul, reduceCtorEq, Nat.reduceBEq, Int.reduceLT, Int.reduceLE, Int.reduceNeg, Int.reduceEq]; with_reducible refine hKr _ ?_; clear hKr Kr)
      exact ⟨n / 2 ^ 32, 32, by omega, by omega, fun r hr => hr.up (by omega), rfl, by simp only [go_sem, ↓reduceIte, Nat.reduceEqDiff, Nat.reduceAdd, Nat.reduceSub, Nat.reduceLeDiff, Nat.reduceMul, reduceCtorEq, Nat.reduceBEq, Int.reduceLT, Int.reduceLE, Int.reduceNeg, Int.reduceEq], by simp only [go_sem, ↓reduceIte, Nat.reduceEqDiff, Nat.reduceAdd, Nat.reduceSub, Nat.reduceLeDiff, Nat.reduceMul, reduceCtorEq, Nat.reduceBEq, Int.reduceLT, Int.reduceLE, Int.reduceNeg, Int.reduceEq]⟩
    · (refine wpc_false (by simp only [ev, lk, Nat.reduceEqDiff, ↓reduceIte, decide_true, decide_false, Bool.not_true, Bool.not_false, Bool.true_and, Bool.false_and, Bool.and_true, Bool.and_false, Bool.or_false, Bool.false_or, Bool.true_or, Bool.or_true, Bool.and_self, Bool.or_self, Int.cast_ofNat_Int, Int.natCast_inj, Int.ofNat_lt, Int.ofNat_le, Int.natCast_nonneg, eq_self, Int.reduceLT, Int.reduceLE, Int.reduceEq, Bool.false_eq_true, if_true, if_false, reduceCtorEq, and_self, and_true, true_and, and_false, false_and, e1, h]) ?_)
      (refine wpc_skip' ?_)
      exact ⟨n, 0, by omega, by omega, fun r hr => by rw [Nat.zero_add]; exact hr, rfl, by simp only [go_sem, ↓reduceIte, Nat.reduceEqDiff, Nat.reduceAdd, Nat.reduceSub, Nat.reduceLeDiff, Nat.reduceMul, reduceCtorEq, Nat.reduceBEq, Int.reduceLT, Int.reduceLE, Int.reduceNeg, Int.reduceEq], by simp only [go_sem, ↓reduceIte, Nat.reduceEqDiff, Nat.reduceAdd, Nat.reduceSub, Nat.reduceLeDiff, Nat.reduceMul, reduceCtorEq, Nat.reduceBEq, Int.reduceLT, Int.reduceLE, Int.reduceNeg, Int.reduceEq]⟩
  rintro ⟨ρ, σ⟩ ⟨m, k, hm, hk, hr, hσ, h0, h2⟩
  simp only at hσ h0 h2
  subst hσ
  (refine wpc_seq ?_); (refine wpc_seq ?_); (refine wpc_region fun Kr hKr => ?_; simp only [go_sem, ↓reduceIte, Nat.reduceEqDiff, Nat.reduceAdd, Nat.reduceSub, Nat.reduceLeDiff, Nat.reduceMul, reduceCtorEq, Nat.reduceBEq, Int.reduceLT, Int.reduceLE, Int.reduceNeg, Int.reduceEq, h0]; with_reducible refine hKr _ ?_; clear hKr Kr)
  have e1 : ((65536 : Int) ≤ (m : Int)) ↔ 65536 ≤ m := by omega
  refine wpc_to (fun s => ∃ m k : Nat, m < 65536 ∧ k ≤ 48 ∧ (∀ r, BL m r → BL n (k + r)) ∧ s.σ = [] ∧ lk s.ρ 0 = some (.iv (.int .u64 (m : Int))) ∧ lk s.ρ 2 = some (.iv (.int .i64 (k : Int)))) ?_ ?_
  · by_cases h : 65536 ≤ m
    · (refine wpc_true (by simp only [ev, lk, Nat.reduceEqDiff, ↓reduceIte, decide_true, decide_false, Bool.not_true, Bool.not_false, Bool.true_and, Bool.false_and, Bool.and_true, Bool.and_false, Bool.or_false, Bool.false_or, Bool.true_or, Bool.or_true, Bool.and_self, Bool.or_self, Int.cast_ofNat_Int, Int.natCast_inj, Int.ofNat_lt, Int.ofNat_le, Int.natCast_nonneg, eq_self, Int.reduceLT, Int.reduceLE, Int.reduceEq, Bool.false_eq_true, if_true, if_false, reduceCtorEq, and_self, and_true, true_and, and_false, false_and, e1, h]) ?_)
      have g : ¬ ((16 : Int) < 0) := by omega
      have hs := shrK m 16 (by omega)
      (refine wpc_seq ?_); (refine wpc_region fun Kr hKr => ?_; simp only [go_sem, ↓reduceIte, Nat.reduceEqDiff, Nat.reduceAdd, Nat.reduceSub, Nat.reduceLeDiff, Nat.reduceMul, reduceCtorEq, Nat.reduceBEq, Int.reduceLT, Int.reduceLE, Int.reduceNeg, Int.reduceEq, h0, shfOp, g, show Int.fdiv (m : Int) (2 ^ (min ((16 : Int).toNat) IntKind.u64.bits)) = ((m / 2 ^ 16 : Nat) : Int) from hs]; with_reducible refine hKr _ ?_; clear hKr Kr)
      have hw : IntKind.i64.wrap ((k : Int) + 16) = ((k + 16 : Nat) : Int) := by rw [wrap_i64 (by omega) (by omega)]; omega
      (refine wpc_region fun Kr hKr => ?_; simp only [go_sem, ↓reduceIte, Nat.reduceEqDiff, Nat.reduceAdd, Nat.reduceSub, Nat.reduceLeDiff, Nat.reduceMul, reduceCtorEq, Nat.reduceBEq, Int.reduceLT, Int.reduceLE, Int.reduceNeg, Int.reduceEq, h2, hw]; with_reducible refine hKr _ ?_; clear hKr Kr)
      refine ⟨m / 2 ^ 16, k + 16, by omega, by omega, fun r hr' => by rw [Nat.add_assoc]; exact hr _ (hr'.up (by omega)), rfl, by simp only [go_sem, ↓reduceIte, Nat.reduceEqDiff, Nat.reduceAdd, Nat.reduceSub, Nat.reduceLeDiff, Nat.reduceMul, reduceCtorEq, Nat.reduceBEq, Int.reduceLT, Int.reduceLE, Int.reduceNeg, Int.reduceEq], by simp only [go_sem, ↓reduceIte, Nat.reduceEqDiff, Nat.reduceAdd, Nat.reduceSub, Nat.reduceLeDiff, Nat.reduceMul, reduceCtorEq, Nat.reduceBEq, Int.reduceLT, Int.reduceLE, Int.reduceNeg, Int.reduceEq]⟩
    · (refine wpc_false (by simp only [ev, lk, Nat.reduceEqDiff, ↓reduceIte, decide_true, decide_false, Bool.not_true, Bool.not_false, Bool.true_and, Bool.false_and, Bool.and_true, Bool.and_false, Bool.or_false, Bool.false_or, Bool.true_or, Bool.or_true, Bool.and_self, Bool.or_self, Int.cast_ofNat_Int, Int.natCast_inj, Int.ofNat_lt, Int.ofNat_le, Int.natCast_nonneg, eq_self, Int.reduceLT, Int.reduceLE, Int.reduceEq, Bool.false_eq_true, if_true, if_false, reduceCtorEq, and_self, and_true, true_and, and_false, false_and, e1, h]) ?_)
      (refine wpc_skip' ?_)
      exact ⟨m, k, by omega, by omega, hr, rfl, by simp only [go_sem, ↓reduceIte, Nat.reduceEqDiff, Nat.reduceAdd, Nat.reduceSub, Nat.reduceLeDiff, Nat.reduceMul, reduceCtorEq, Nat.reduceBEq, Int.reduceLT, Int.reduceLE, Int.reduceNeg, Int.reduceEq, h0], by simp only [go_sem, ↓reduceIte, Nat.reduceEqDiff, Nat.reduceAdd, Nat.reduceSub, Nat.reduceLeDiff, Nat.reduceMul, reduceCtorEq, Nat.reduceBEq, Int.reduceLT, Int.reduceLE, Int.reduceNeg, Int.reduceEq, h2]⟩
  clear h0 h2 hr hm hk e1 m k ρ
  rintro ⟨ρ, σ⟩ ⟨m, k, hm, hk, hr, hσ, h0, h2⟩
  simp only at hσ h0 h2
  subst hσ
  (refine wpc_seq ?_); (refine wpc_seq ?_); (refine wpc_region fun Kr hKr => ?_; simp only [go_sem, ↓reduceIte, Nat.reduceEqDiff, Nat.reduceAdd, Nat.reduceSub, Nat.reduceLeDiff, Nat.reduceMul, reduceCtorEq, Nat.reduceBEq, Int.reduceLT, Int.reduceLE, Int.reduceNeg, Int.reduceEq, h0]; with_reducible refine hKr _ ?_; clear hKr Kr)
  have e1 : ((256 : Int) ≤ (m : Int)) ↔ 256 ≤ m := by omega
  refine wpc_to (fun s => ∃ m k : Nat, m < 256 ∧ k ≤ 56 ∧ (∀ r, BL m r → BL n (k + r)) ∧ s.σ = [] ∧ lk s.ρ 0 = some (.iv (.int .u64 (m : Int))) ∧ lk s.ρ 2 = some (.iv (.int .i64 (k : Int)))) ?_ ?_
  · by_cases h : 256 ≤ m
    · (refine wpc_true (by simp only [ev, lk, Nat.reduceEqDiff, ↓reduceIte, decide_true, decide_false, Bool.not_true, Bool.not_false, Bool.true_and, Bool.false_and, Bool.and_true, Bool.and_false, Bool.or_false, Bool.false_or, Bool.true_or, Bool.or_true, Bool.and_self, Bool.or_self, Int.cast_ofNat_Int, Int.natCast_inj, Int.ofNat_lt, Int.ofNat_le, Int.natCast_nonneg, eq_self, Int.reduceLT, Int.reduceLE, Int.reduceEq, Bool.false_eq_true, if_true, if_false, reduceCtorEq, and_self, and_true, true_and, and_false, false_and, e1, h]) ?_)
      have g : ¬ ((8 : Int) < 0) := by omega
      have hs := shrK m 8 (by omega)
      (refine wpc_seq ?_); (refine wpc_region fun Kr hKr => ?_; simp only [go_sem, ↓reduceIte, Nat.reduceEqDiff, Nat.reduceAdd, Nat.reduceSub, Nat.reduceLeDiff, Nat.reduceMul, reduceCtorEq, Nat.reduceBEq, Int.reduceLT, Int.reduceLE, Int.reduceNeg, Int.reduceEq, h0, shfOp, g, show Int.fdiv (m : Int) (2 ^ (min ((8 : Int).toNat) IntKind.u64.bits)) = ((m / 2 ^ 8 : Nat) : Int) from hs]; with_reducible refine hKr _ ?_; clear hKr Kr)
      have hw : IntKind.i64.wrap ((k : Int) + 8) = ((k + 8 : Nat) : Int) := by rw [wrap_i64 (by omega) (by omega)]; omega
      (refine wpc_region fun Kr hKr => ?_; simp only [go_sem, ↓reduceIte, Nat.reduceEqDiff, Nat.reduceAdd, Nat.reduceSub, Nat.reduceLeDiff, Nat.reduceMul, reduceCtorEq, Nat.reduceBEq, Int.reduceLT, Int.reduceLE, Int.reduceNeg, Int.reduceEq, h2, hw]; with_reducible refine hKr _ ?_; clear hKr Kr)
      refine ⟨m / 2 ^ 8, k + 8, by omega, by omega, fun r hr' => by rw [Nat.add_assoc]; exact hr _ (hr'.up (by omega)), rfl, by simp only [go_sem, ↓reduceIte, Nat.reduceEqDiff, Nat.reduceAdd, Nat.reduceSub, Nat.reduceLeDiff, Nat.reduceMul, reduceCtorEq, Nat.reduceBEq, Int.reduceLT, Int.reduceLE, Int.reduceNeg, Int.reduceEq], by simp only [go_sem, ↓reduceIte, Nat.reduceEqDiff, Nat.reduceAdd, Nat.reduceSub, Nat.reduceLeDiff, Nat.reduceMul, reduceCtorEq, Nat.reduceBEq, Int.reduceLT, Int.reduceLE, Int.reduceNeg, Int.reduceEq]⟩
    · (refine wpc_false (by simp only [ev, lk, Nat.reduceEqDiff, ↓reduceIte, decide_true, decide_false, Bool.not_true, Bool.not_false, Bool.true_and, Bool.false_and, Bool.and_true, Bool.and_false, Bool.or_false, Bool.false_or, Bool.true_or, Bool.or_true, Bool.and_self, Bool.or_self, Int.cast_ofNat_Int, Int.natCast_inj, Int.ofNat_lt, Int.ofNat_le, Int.natCast_nonneg, eq_self, Int.reduceLT, Int.reduceLE, Int.reduceEq, Bool.false_eq_true, if_true, if_false, reduceCtorEq, and_self, and_true, true_and, and_false, false_and, e1, h]) ?_)
      (refine wpc_skip' ?_)
      exact ⟨m, k, by omega, by omega, hr, rfl, by simp only [go_sem, ↓reduceIte, Nat.reduceEqDiff, Nat.reduceAdd, Nat.reduceSub, Nat.reduceLeDiff, Nat.reduceMul, reduceCtorEq, Nat.reduceBEq, Int.reduceLT, Int.reduceLE, Int.reduceNeg, Int.reduceEq, h0], by simp only [go_sem, ↓reduceIte, Nat.reduceEqDiff, Nat.reduceAdd, Nat.reduceSub, Nat.reduceLeDiff, Nat.reduceMul, reduceCtorEq, Nat.reduceBEq, Int.reduceLT, Int.reduceLE, Int.reduceNeg, Int.reduceEq, h2]⟩
  clear h0 h2 hr hm hk e1 m k ρ
  rintro ⟨ρ, σ⟩ ⟨m, k, hm, hk, hr, hσ, h0, h2⟩
  simp only at hσ h0 h2
  subst hσ
  (refine wpc_seq ?_)
  have hu : IntKind.u8.wrap (m : Int) = (m : Int) := wrap_u8 (by omega) (by omega)
  have ht := lenTab_ok ⟨m, hm⟩
  simp only at ht
  obtain ⟨z, hz⟩ := Option.isSome_iff_exists.1 ht.1
  have hgd : lenTab.getD m 0 = z := by rw [List.getD_eq_getElem?_getD, hz]; rfl
  rw [hgd] at ht
  have hbl : BL m z.toNat := ⟨ht.2.1, ht.2.2⟩
  have hz8 : z.toNat ≤ 8 := by
    rcases Nat.lt_or_ge 8 z.toNat with h | h
    · have h1 := hbl.2 (by omega)
      have h2 := Nat.pow_le_pow_right (n := 2) (by omega) (show 8 ≤ z.toNat - 1 by omega)
      have : (2 : Nat) ^ 8 = 256 := by decide
      omega
    · exact h
  have hw1 : IntKind.i64.wrap (z.toNat : Int) = (z.toNat : Int) := wrap_i64 (by omega) (by omega)
  have hw2 : IntKind.i64.wrap ((k : Int) + (z.toNat : Int)) = ((k + z.toNat : Nat) : Int) := by rw [wrap_i64 (by omega) (by omega)]; omega
  unfold lenTab at hz
  (refine wpc_region fun Kr hKr => ?_; simp only [go_sem, ↓reduceIte, Nat.reduceEqDiff, Nat.reduceAdd, Nat.reduceSub, Nat.reduceLeDiff, Nat.reduceMul, reduceCtorEq, Nat.reduceBEq, Int.reduceLT, Int.reduceLE, Int.reduceNeg, Int.reduceEq, h0, h2, hu, hz, hw1, hw2]; with_reducible refine hKr _ ?_; clear hKr Kr)
  (refine endsV (x := _) (σ' := _) (by simp only [retOf, retVals, oneOrTup, callArgs, callArgsL, evAll, ev, lk, shutAll, shut, nrm, nrm0, nrm1, upd, ↓reduceIte, Nat.reduceEqDiff, List.map_nil, List.map_cons, eq_self, if_true, if_false, reduceCtorEq, and_self, ownRes]; rfl) ?_)
  exact ⟨_, rfl, hr _ hbl, by omega⟩

theorem size_fc (n : Nat) (hn : n < 18446744073709551616) : FC Try.prog i_wire_Size [.int .u64 (n : Int)] (· = .int .i64 ((pvL n).length : Int)) := by
  (refine .of F_wire_Size T_wire_Size L_wire_Size ?_; unfold A_wire_Size; simp only [args0, List.map_cons, List.map_nil, List.zipIdx_cons, List.zipIdx_nil])
  (refine wpc_seq ?_); (refine wpc_region fun Kr hKr => ?_; simp only [go_sem, ↓reduceIte, Nat.reduceEqDiff, Nat.reduceAdd, Nat.reduceSub, Nat.reduceLeDiff, Nat.reduceMul, reduceCtorEq, Nat.reduceBEq, Int.reduceLT, Int.reduceLE, Int.reduceNeg, Int.reduceEq]; with_reducible refine hKr _ ?_; clear hKr Kr)
  (refine wpc_seq ?_); (refine wpc_region fun Kr hKr => ?_; simp only [go_sem, ↓reduceIte, Nat.reduceEqDiff, Nat.reduceAdd, Nat.reduceSub, Nat.reduceLeDiff, Nat.reduceMul, reduceCtorEq, Nat.reduceBEq, Int.reduceLT, Int.reduceLE, Int.reduceNeg, Int.reduceEq])
  refine wpr_call (len64_fc n hn) (σ' := []) (by simp only [go_sem, ↓reduceIte, Nat.reduceEqDiff, Nat.reduceAdd, Nat.reduceSub, Nat.reduceLeDiff, Nat.reduceMul, reduceCtorEq, Nat.reduceBEq, Int.reduceLT, Int.reduceLE, Int.reduceNeg, Int.reduceEq]) ?_
  rintro x ⟨r, rfl, hr, hr64⟩
  have hl := pvL_bl r n hr
  have hm : IntKind.i64.wrap (IntKind.i64.wrap ((if (1 : Int) < (r : Int) then (r : Int) else 1) + 7) - 1) = ((max 1 r + 6 : Nat) : Int) := by
    have : (if (1 : Int) < (r : Int) then (r : Int) else 1) = ((max 1 r : Nat) : Int) := by split <;> omega
    rw [this, wrap_i64 (n := ((max 1 r : Nat) : Int) + 7) (by omega) (by omega), wrap_i64 (by omega) (by omega)]; omega
  have hd : IntKind.i64.wrap (((max 1 r + 6 : Nat) : Int).tdiv 7) = ((pvL n).length : Int) := by
    rw [IntWalk.i64_quo _ _ ⟨by omega, by omega, by omega⟩, hl]; omega
  simp only [go_sem, ↓reduceIte, Nat.reduceEqDiff, Nat.reduceAdd, Nat.reduceSub, Nat.reduceLeDiff, Nat.reduceMul, reduceCtorEq, Nat.reduceBEq, Int.reduceLT, Int.reduceLE, Int.reduceNeg, Int.reduceEq, hm, hd]
  (with_reducible refine hKr _ ?_; clear hKr Kr)
  (refine endsV (x := _) (σ' := _) (by simp only [retOf, retVals, oneOrTup, callArgs, callArgsL, evAll, ev, lk, shutAll, shut, nrm, nrm0, nrm1, upd, ↓reduceIte, Nat.reduceEqDiff, List.map_nil, List.map_cons, eq_self, if_true, if_false, reduceCtorEq, and_self, ownRes]; rfl) ?_)
  rfl
end Go.Proofs.Ytfmeedphpcjkmaa.Ag
