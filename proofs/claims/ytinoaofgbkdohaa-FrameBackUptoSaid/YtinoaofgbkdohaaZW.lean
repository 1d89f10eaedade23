/- The contracts of the wire functions at the frames' seat: as in layer 1. -/
import Derived.Test.YtinoaofgbkdohaaZAirW
import Derived.Test.YtinoaofgbkdohaaWInt
import Derived.Lib.Strings
-- sem
set_option linter.unusedVariables false
set_option linter.unusedSimpArgs false
set_option maxRecDepth 8000
open List renaming map_cons → zl0, map_nil → zl1, zipIdx_cons → zl2, zipIdx_nil → zl3
open Nat renaming reduceEqDiff → zn0, reduceAdd → zn1, reduceSub → zn2, reduceLeDiff → zn3, reduceMul → zn4, reduceBEq → zn5, reducePow → zn6, reduceLT → zn7, reduceDiv → zn8, reduceMod → zn9
open Int renaming reduceLT → zi0, reduceLE → zi1, reduceNeg → zi2, reduceEq → zi3, reduceToNat → zi4
namespace Go.Proofs.Ytinoaofgbkdohaa.Ag
attribute [local go_sem] runTo_nil runTo_n runTo_g conT_some conT_none conB_true conB_false conG_bool runI_nil runI_n runI_g conTI_some conTI_none conBI_some conBI_none conGI_bool runD_nil runD_n runD_g conDB_some conDB_none conDF_some conDF_none conD_true conD_false conDW_true conDW_false conDG_bool gρ openV pickB opds aop ev evOpt evAll callArgs callArgsL ownRes shutAll shut nrm nrm0 nrm1 St.put lk upd nxt bin2 un1 intOp lenOf isStr isBoolIV notNil IV.cells fldA fldV partIV partTV loadOf storeOf cellsOf TV.cells? mkAgg ivsOf splice fillTV dstOf dstOf0 srcOf srcOf0 unIf isNilS condP retOf retVals oneOrTup thenC blockC List.map_cons List.map_nil List.length_cons List.length_nil List.length_map Option.map_some Bool.not_true Bool.not_false Bool.true_and Bool.false_and Bool.and_true Bool.and_false Bool.false_eq_true if_true if_false decide_true decide_false List.contains_nil List.contains_cons eq_self Int.toNat_natCast Option.getD_some Option.getD_none and_true true_and List.getElem?_cons_zero List.getElem?_cons_succ List.drop_zero List.drop_succ_cons List.take_succ_cons List.take_zero List.nil_append List.cons_append wpr_nil wprd_nil Int.natCast_nonneg Int.natCast_inj Int.ofNat_lt Int.ofNat_le Bool.cond_false_right Bool.cond_true_left Bool.cond_false_left Bool.cond_true_right cond_true cond_false beq_true beq_false Bool.not_eq_true beq_self_eq_true oneSize Nat.mul_one List.length_append Int.toNat_zero List.replicate_zero Int.cast_ofNat_Int Int.mul_one Bool.or_false Bool.false_or Bool.true_or Bool.or_true Bool.and_self Bool.or_self
attribute [-go_sem] IntKind.bits
open Go.RowKit (Below)
theorem place_fc (xs : List IV) (k : Int) : FC Try.prog i_wire_place [.slice xs, .int .i64 k] (· = .bool (decide (0 ≤ k ∧ k ≤ xs.length))) := by
  (refine .of F_wire_place T_wire_place L_wire_place ?_; unfold A_wire_place; simp only [args0, zl0, zl1, zl2, zl3])
  (refine wpc_seq ?_); (refine wpc_region fun Kr hKr => ?_; simp only [go_sem, ↓reduceIte, Nat.reduceEqDiff, Nat.reduceAdd, Nat.reduceSub, Nat.reduceLeDiff, Nat.reduceMul, reduceCtorEq, Nat.reduceBEq, Int.reduceLT, Int.reduceLE, Int.reduceNeg, Int.reduceEq]; with_reducible refine hKr _ ?_; clear hKr Kr); (refine wpc_seq ?_)
  by_cases h : 0 ≤ k
  · (refine wpc_region fun Kr hKr => ?_; simp only [go_sem, ↓reduceIte, Nat.reduceEqDiff, Nat.reduceAdd, Nat.reduceSub, Nat.reduceLeDiff, Nat.reduceMul, reduceCtorEq, Nat.reduceBEq, Int.reduceLT, Int.reduceLE, Int.reduceNeg, Int.reduceEq, h]; with_reducible refine hKr _ ?_; clear hKr Kr); (refine endsV (x := _) (σ' := _) (by simp only [retOf, retVals, oneOrTup, callArgs, callArgsL, evAll, ev, lk, shutAll, shut, nrm, nrm0, nrm1, upd, ↓reduceIte, Nat.reduceEqDiff, List.map_nil, List.map_cons, eq_self, if_true, if_false, reduceCtorEq, and_self, ownRes]; rfl) ?_); simp [h]
  · (refine wpc_region fun Kr hKr => ?_; simp only [go_sem, ↓reduceIte, Nat.reduceEqDiff, Nat.reduceAdd, Nat.reduceSub, Nat.reduceLeDiff, Nat.reduceMul, reduceCtorEq, Nat.reduceBEq, Int.reduceLT, Int.reduceLE, Int.reduceNeg, Int.reduceEq, h]; with_reducible refine hKr _ ?_; clear hKr Kr); (refine endsV (x := _) (σ' := _) (by simp only [retOf, retVals, oneOrTup, callArgs, callArgsL, evAll, ev, lk, shutAll, shut, nrm, nrm0, nrm1, upd, ↓reduceIte, Nat.reduceEqDiff, List.map_nil, List.map_cons, eq_self, if_true, if_false, reduceCtorEq, and_self, ownRes]; rfl) ?_); simp [h]

def encGV (r : Nat × Nat × Nat) : IV := .tup [.int .u64 r.1, .int .i64 r.2.1, .int .i64 r.2.2]

theorem gvL_drop {bs : List UInt8} {j i n : Nat} {b : UInt8} (h : bs[j]? = some b) : gvL (bs.drop j) i n = if i = 9 ∧ 1 < b.toNat then (0, 0, 4) else if b.toNat < 128 then (n + b.toNat % 128 * 128 ^ i, i + 1, 0) else gvL (bs.drop (j + 1)) (i + 1) (n + b.toNat % 128 * 128 ^ i) := by
  have hlt := (List.getElem?_eq_some_iff.1 h).1
  rw [List.drop_eq_getElem_cons hlt]
  have : bs[j] = b := by have := List.getElem?_eq_getElem hlt; rw [h] at this; injection this with this; exact this.symm
  rw [this]; rfl

theorem gvAt_ok {bs : List UInt8} {a n k : Nat} (ha : a ≤ bs.length) (h : gvL (bs.drop a) 0 0 = (n, k, 0)) : gvAt bs a = (n, a + k, 0) := by
  unfold gvAt
  rw [if_pos (by omega)]
  simp [h]
theorem gvAt_err {bs : List UInt8} {a n k e : Nat} (ha : a ≤ bs.length) (h : gvL (bs.drop a) 0 0 = (n, k, e + 1)) : gvAt bs a = (0, 0, e + 1) := by
  unfold gvAt
  rw [if_pos (by omega)]
  simp [h]
theorem gvAt_out {bs : List UInt8} {k : Int} (h : ¬ (0 ≤ k ∧ k ≤ bs.length)) : gvAt bs k = (0, 0, 18) := by
  unfold gvAt
  rw [if_neg h]

theorem getVarint_fc (bs : List UInt8) (k : Int) (hb : bs.length < 4611686018427387904) : FC Try.prog i_wire_GetVarint [.slice (bs.map encB), .int .i64 k] (· = encGV (gvAt bs k)) := by
  (refine .of F_wire_GetVarint T_wire_GetVarint L_wire_GetVarint ?_; unfold A_wire_GetVarint; simp only [args0, zl0, zl1, zl2, zl3])
  (refine wpc_seq ?_); (refine wpc_region fun Kr hKr => ?_; simp only [go_sem, ↓reduceIte, Nat.reduceEqDiff, Nat.reduceAdd, Nat.reduceSub, Nat.reduceLeDiff, Nat.reduceMul, reduceCtorEq, Nat.reduceBEq, Int.reduceLT, Int.reduceLE, Int.reduceNeg, Int.reduceEq]; with_reducible refine hKr _ ?_; clear hKr Kr)
  show wpc _ (.scope _) _ _
  (refine wpc_seq ?_); (refine wpc_seq ?_)
  (refine wpc_region fun Kr hKr => ?_; simp only [go_sem, ↓reduceIte, Nat.reduceEqDiff, Nat.reduceAdd, Nat.reduceSub, Nat.reduceLeDiff, Nat.reduceMul, reduceCtorEq, Nat.reduceBEq, Int.reduceLT, Int.reduceLE, Int.reduceNeg, Int.reduceEq])
  (refine wpr_callE (place_fc (bs.map encB) k) (σ' := _) (by simp only [callArgs, callArgsL, evAll, ev, lk, shutAll, shut, nrm, nrm0, nrm1, upd, ↓reduceIte, Nat.reduceEqDiff, List.map_nil, List.map_cons, eq_self, if_true, if_false, reduceCtorEq, and_self, ownRes]; rfl) ?_; simp only [go_sem, ↓reduceIte, Nat.reduceEqDiff, Nat.reduceAdd, Nat.reduceSub, Nat.reduceLeDiff, Nat.reduceMul, reduceCtorEq, Nat.reduceBEq, Int.reduceLT, Int.reduceLE, Int.reduceNeg, Int.reduceEq])
  by_cases hp : 0 ≤ k ∧ k ≤ bs.length
  · (with_reducible refine hKr _ ?_; clear hKr Kr)
    (refine wpc_false (by simp only [ev, lk, Nat.reduceEqDiff, ↓reduceIte, decide_true, decide_false, Bool.not_true, Bool.not_false, Bool.true_and, Bool.false_and, Bool.and_true, Bool.and_false, Bool.or_false, Bool.false_or, Bool.true_or, Bool.or_true, Bool.and_self, Bool.or_self, Int.cast_ofNat_Int, Int.natCast_inj, Int.ofNat_lt, Int.ofNat_le, Int.natCast_nonneg, eq_self, Int.reduceLT, Int.reduceLE, Int.reduceEq, Bool.false_eq_true, if_true, if_false, reduceCtorEq, and_self, and_true, true_and, and_false, false_and, hp]) ?_)
    show wpc _ (.seq .label _) _ _
    (refine wpc_seq ?_)
    show wpc _ (.seq _ _) _ _
    (refine wpc_seq ?_); (refine wpc_seq ?_); (refine wpc_region fun Kr hKr => ?_; simp only [go_sem, ↓reduceIte, Nat.reduceEqDiff, Nat.reduceAdd, Nat.reduceSub, Nat.reduceLeDiff, Nat.reduceMul, reduceCtorEq, Nat.reduceBEq, Int.reduceLT, Int.reduceLE, Int.reduceNeg, Int.reduceEq]; with_reducible refine hKr _ ?_; clear hKr Kr)
    show wpc _ (.loop _) _ _
    obtain ⟨hk0, hk1⟩ := hp
    obtain ⟨a, rfl⟩ := Int.eq_ofNat_of_zero_le hk0
    refine wpc_loop (fun m s => ∃ i n : Nat, m = 10 - i ∧ i ≤ 9 ∧ a + i ≤ bs.length ∧ n < 128 ^ i ∧ gvL (bs.drop a) 0 0 = gvL (bs.drop (a + i)) i n ∧ s.σ = [] ∧ lk s.ρ 0 = some (.iv (.slice (bs.map encB))) ∧ lk s.ρ 1 = some (.iv (.int .i64 (a : Int))) ∧
      lk s.ρ 4 = some (.iv (.int .u64 (n : Int))) ∧ lk s.ρ 13 = some (.iv (.int .i64 (i : Int)))) 10 ⟨0, 0, rfl, by omega, by omega, by simp, rfl, rfl, ?_, ?_, ?_, ?_⟩ ?_
    · simp only [go_sem, ↓reduceIte, Nat.reduceEqDiff, Nat.reduceAdd, Nat.reduceSub, Nat.reduceLeDiff, Nat.reduceMul, reduceCtorEq, Nat.reduceBEq, Int.reduceLT, Int.reduceLE, Int.reduceNeg, Int.reduceEq]
    · simp only [go_sem, ↓reduceIte, Nat.reduceEqDiff, Nat.reduceAdd, Nat.reduceSub, Nat.reduceLeDiff, Nat.reduceMul, reduceCtorEq, Nat.reduceBEq, Int.reduceLT, Int.reduceLE, Int.reduceNeg, Int.reduceEq]
    · simp only [go_sem, ↓reduceIte, Nat.reduceEqDiff, Nat.reduceAdd, Nat.reduceSub, Nat.reduceLeDiff, Nat.reduceMul, reduceCtorEq, Nat.reduceBEq, Int.reduceLT, Int.reduceLE, Int.reduceNeg, Int.reduceEq]
    · simp only [go_sem, ↓reduceIte, Nat.reduceEqDiff, Nat.reduceAdd, Nat.reduceSub, Nat.reduceLeDiff, Nat.reduceMul, reduceCtorEq, Nat.reduceBEq, Int.reduceLT, Int.reduceLE, Int.reduceNeg, Int.reduceEq]
    rintro m s ⟨i, n, rfl, hi, hai, hn, hg, hσ, h0, h1, h4, h13⟩ K hK
    obtain ⟨ρ, σ⟩ := s
    simp only at hσ h0 h1 h4 h13
    subst hσ
    (refine wpc_seq ?_); (refine wpc_region fun Kr hKr => ?_; simp only [go_sem, ↓reduceIte, Nat.reduceEqDiff, Nat.reduceAdd, Nat.reduceSub, Nat.reduceLeDiff, Nat.reduceMul, reduceCtorEq, Nat.reduceBEq, Int.reduceLT, Int.reduceLE, Int.reduceNeg, Int.reduceEq, h13]; with_reducible refine hKr _ ?_; clear hKr Kr); (refine wpc_seq ?_)
    (refine wpc_true (by simp only [ev, lk, Nat.reduceEqDiff, ↓reduceIte, decide_true, decide_false, Bool.not_true, Bool.not_false, Bool.true_and, Bool.false_and, Bool.and_true, Bool.and_false, Bool.or_false, Bool.false_or, Bool.true_or, Bool.or_true, Bool.and_self, Bool.or_self, Int.cast_ofNat_Int, Int.natCast_inj, Int.ofNat_lt, Int.ofNat_le, Int.natCast_nonneg, eq_self, Int.reduceLT, Int.reduceLE, Int.reduceEq, Bool.false_eq_true, if_true, if_false, reduceCtorEq, and_self, and_true, true_and, and_false, false_and, h0, h1, h4, h13, show (i : Int) < 10 by omega]) ?_)
    show wpc _ (.seq _ _) _ _
    (refine wpc_seq ?_); (refine wpc_seq ?_); (refine wpc_region fun Kr hKr => ?_; simp only [go_sem, ↓reduceIte, Nat.reduceEqDiff, Nat.reduceAdd, Nat.reduceSub, Nat.reduceLeDiff, Nat.reduceMul, reduceCtorEq, Nat.reduceBEq, Int.reduceLT, Int.reduceLE, Int.reduceNeg, Int.reduceEq, h0, h1, h4, h13]; with_reducible refine hKr _ ?_; clear hKr Kr)
    (refine wpc_seq ?_); (refine wpc_seq ?_)
    have w1 : IntKind.i64.wrap ((a : Int) + i) = ((a + i : Nat) : Int) := by rw [wrap_i64 (by omega) (by omega)]; omega
    (refine wpc_region fun Kr hKr => ?_; simp only [go_sem, ↓reduceIte, Nat.reduceEqDiff, Nat.reduceAdd, Nat.reduceSub, Nat.reduceLeDiff, Nat.reduceMul, reduceCtorEq, Nat.reduceBEq, Int.reduceLT, Int.reduceLE, Int.reduceNeg, Int.reduceEq, h0, h1, h4, h13, w1]; with_reducible refine hKr _ ?_; clear hKr Kr)
    by_cases he : a + i = bs.length
    · -- the end
      (refine wpc_true (by simp only [ev, lk, Nat.reduceEqDiff, ↓reduceIte, decide_true, decide_false, Bool.not_true, Bool.not_false, Bool.true_and, Bool.false_and, Bool.and_true, Bool.and_false, Bool.or_false, Bool.false_or, Bool.true_or, Bool.or_true, Bool.and_self, Bool.or_self, Int.cast_ofNat_Int, Int.natCast_inj, Int.ofNat_lt, Int.ofNat_le, Int.natCast_nonneg, eq_self, Int.reduceLT, Int.reduceLE, Int.reduceEq, Bool.false_eq_true, if_true, if_false, reduceCtorEq, and_self, and_true, true_and, and_false, false_and, h0, h1, h4, h13, w1, he]) ?_)
      show wpc _ (.seq (.region _) .ret) _ _
      (refine wpc_seq ?_); (refine wpc_region fun Kr hKr => ?_; simp only [go_sem, ↓reduceIte, Nat.reduceEqDiff, Nat.reduceAdd, Nat.reduceSub, Nat.reduceLeDiff, Nat.reduceMul, reduceCtorEq, Nat.reduceBEq, Int.reduceLT, Int.reduceLE, Int.reduceNeg, Int.reduceEq]; with_reducible refine hKr _ ?_; clear hKr Kr)
      (refine endsV (x := _) (σ' := _) (by simp only [retOf, retVals, oneOrTup, callArgs, callArgsL, evAll, ev, lk, shutAll, shut, nrm, nrm0, nrm1, upd, ↓reduceIte, Nat.reduceEqDiff, List.map_nil, List.map_cons, eq_self, if_true, if_false, reduceCtorEq, and_self, ownRes]; rfl) ?_)
      have : gvL (bs.drop (a + i)) i n = (0, 0, 3) := by rw [he, List.drop_length]; rfl
      rw [gvAt_err (by omega) (hg.trans this)]; rfl
    · have hlt : a + i < bs.length := by omega
      have hx := List.getElem?_eq_getElem hlt
      obtain ⟨b, hbb⟩ : ∃ b, bs[a + i]? = some b := ⟨_, hx⟩
      have hm : (bs.map encB)[a + i]? = some (encB b) := by simp [hbb]
      have hgd := gvL_drop (i := i) (n := n) hbb
      have hbl := b.toNat_lt
      (refine wpc_false (by simp only [ev, lk, Nat.reduceEqDiff, ↓reduceIte, decide_true, decide_false, Bool.not_true, Bool.not_false, Bool.true_and, Bool.false_and, Bool.and_true, Bool.and_false, Bool.or_false, Bool.false_or, Bool.true_or, Bool.or_true, Bool.and_self, Bool.or_self, Int.cast_ofNat_Int, Int.natCast_inj, Int.ofNat_lt, Int.ofNat_le, Int.natCast_nonneg, eq_self, Int.reduceLT, Int.reduceLE, Int.reduceEq, Bool.false_eq_true, if_true, if_false, reduceCtorEq, and_self, and_true, true_and, and_false, false_and, h0, h1, h4, h13, w1, he]) ?_)
      (refine wpc_seq ?_); (refine wpc_region fun Kr hKr => ?_; simp only [go_sem, ↓reduceIte, Nat.reduceEqDiff, Nat.reduceAdd, Nat.reduceSub, Nat.reduceLeDiff, Nat.reduceMul, reduceCtorEq, Nat.reduceBEq, Int.reduceLT, Int.reduceLE, Int.reduceNeg, Int.reduceEq, h0, h1, h4, h13, w1, hm, encB]; with_reducible refine hKr _ ?_; clear hKr Kr)
      (refine wpc_seq ?_); (refine wpc_seq ?_)
      have hb2 := b.toNat_lt
      have ec : (1 < (b.toNat : Int)) ↔ (1 < b.toNat) := by omega
      have hnot : ∀ (A : Prop), (¬ (i = 9 ∧ 1 < b.toNat) → A) → (i = 9 → 1 < b.toNat → A) → A := by
        intro A h1 h2
        by_cases h : i = 9 ∧ 1 < b.toNat
        · exact h2 h.1 h.2
        · exact h1 h
      have ec128 : ((b.toNat : Int) < 128) ↔ (b.toNat < 128) := by omega
      have hb127 := and127 b
      have wc : IntKind.u64.wrap ((b.toNat % 128 : Nat) : Int) = ((b.toNat % 128 : Nat) : Int) := wrap_u64 (by omega) (by omega)
      have wm : IntKind.i64.wrap (7 * (i : Int)) = 7 * (i : Int) := wrap_i64 (by omega) (by omega)
      have hsh : ¬ (7 * (i : Int) < 0) := by omega
      have ei : ((i : Int) = 9) ↔ i = 9 := by omega
      (refine wpc_regionI fun Kr hKr => ?_; simp only [go_sem, ↓reduceIte, Nat.reduceEqDiff, Nat.reduceAdd, Nat.reduceSub, Nat.reduceLeDiff, Nat.reduceMul, reduceCtorEq, Nat.reduceBEq, Int.reduceLT, Int.reduceLE, Int.reduceNeg, Int.reduceEq, h0, h1, h4, h13, encB]; with_reducible refine hKr _ ?_; clear hKr Kr)
      by_cases hbad : i = 9 ∧ 1 < b.toNat
      · obtain ⟨h9, hb1⟩ := hbad
        have e9 : ((i : Int) = 9) := by omega
        (refine wpc_true (by simp only [ev, lk, Nat.reduceEqDiff, ↓reduceIte, decide_true, decide_false, Bool.not_true, Bool.not_false, Bool.true_and, Bool.false_and, Bool.and_true, Bool.and_false, Bool.or_false, Bool.false_or, Bool.true_or, Bool.or_true, Bool.and_self, Bool.or_self, Int.cast_ofNat_Int, Int.natCast_inj, Int.ofNat_lt, Int.ofNat_le, Int.natCast_nonneg, eq_self, Int.reduceLT, Int.reduceLE, Int.reduceEq, Bool.false_eq_true, if_true, if_false, reduceCtorEq, and_self, and_true, true_and, and_false, false_and, ec, e9, hb1]) ?_)
        (refine wpc_seq ?_); (refine wpc_region fun Kr hKr => ?_; simp only [go_sem, ↓reduceIte, Nat.reduceEqDiff, Nat.reduceAdd, Nat.reduceSub, Nat.reduceLeDiff, Nat.reduceMul, reduceCtorEq, Nat.reduceBEq, Int.reduceLT, Int.reduceLE, Int.reduceNeg, Int.reduceEq]; with_reducible refine hKr _ ?_; clear hKr Kr)
        (refine endsV (x := _) (σ' := _) (by simp only [retOf, retVals, oneOrTup, callArgs, callArgsL, evAll, ev, lk, shutAll, shut, nrm, nrm0, nrm1, upd, ↓reduceIte, Nat.reduceEqDiff, List.map_nil, List.map_cons, eq_self, if_true, if_false, reduceCtorEq, and_self, ownRes]; rfl) ?_)
        rw [gvAt_err (by omega) (hg.trans (hgd.trans (if_pos ⟨h9, hb1⟩)))]; rfl
      · rw [if_neg hbad] at hgd
        have hd := digit_or (n := n) (c := b.toNat % 128) hi hn (Nat.mod_lt _ (by omega)) (by omega)
        have hd' : bitOp .or .u64 (n : Int) (IntKind.u64.wrap (((b.toNat % 128 : Nat) : Int) * 2 ^ (min ((7 * (i : Int)).toNat) IntKind.u64.bits))) = ((n + b.toNat % 128 * 128 ^ i : Nat) : Int) := hd
        have hbad' : (decide (i = 9) && decide (1 < b.toNat)) = false := by simpa using hbad
        (refine wpc_false (by simp only [ev, lk, Nat.reduceEqDiff, ↓reduceIte, decide_true, decide_false, Bool.not_true, Bool.not_false, Bool.true_and, Bool.false_and, Bool.and_true, Bool.and_false, Bool.or_false, Bool.false_or, Bool.true_or, Bool.or_true, Bool.and_self, Bool.or_self, Int.cast_ofNat_Int, Int.natCast_inj, Int.ofNat_lt, Int.ofNat_le, Int.natCast_nonneg, eq_self, Int.reduceLT, Int.reduceLE, Int.reduceEq, Bool.false_eq_true, if_true, if_false, reduceCtorEq, and_self, and_true, true_and, and_false, false_and, ec, ei, hbad']) ?_)
        (refine wpc_seq ?_); (refine wpc_region fun Kr hKr => ?_; simp only [go_sem, ↓reduceIte, Nat.reduceEqDiff, Nat.reduceAdd, Nat.reduceSub, Nat.reduceLeDiff, Nat.reduceMul, reduceCtorEq, Nat.reduceBEq, Int.reduceLT, Int.reduceLE, Int.reduceNeg, Int.reduceEq, h0, h1, h4, h13, encB, shfOp, hb127, wc, wm, hsh, hd']; with_reducible refine hKr _ ?_; clear hKr Kr)
        (refine wpc_seq ?_); (refine wpc_region fun Kr hKr => ?_; simp only [go_sem, ↓reduceIte, Nat.reduceEqDiff, Nat.reduceAdd, Nat.reduceSub, Nat.reduceLeDiff, Nat.reduceMul, reduceCtorEq, Nat.reduceBEq, Int.reduceLT, Int.reduceLE, Int.reduceNeg, Int.reduceEq, encB]; with_reducible refine hKr _ ?_; clear hKr Kr)
        by_cases hlast : b.toNat < 128
        · rw [if_pos hlast] at hgd
          have w2 : IntKind.i64.wrap (((a + i : Nat) : Int) + 1) = ((a + (i + 1) : Nat) : Int) := by rw [wrap_i64 (by omega) (by omega)]; omega
          (refine wpc_true (by simp only [ev, lk, Nat.reduceEqDiff, ↓reduceIte, decide_true, decide_false, Bool.not_true, Bool.not_false, Bool.true_and, Bool.false_and, Bool.and_true, Bool.and_false, Bool.or_false, Bool.false_or, Bool.true_or, Bool.or_true, Bool.and_self, Bool.or_self, Int.cast_ofNat_Int, Int.natCast_inj, Int.ofNat_lt, Int.ofNat_le, Int.natCast_nonneg, eq_self, Int.reduceLT, Int.reduceLE, Int.reduceEq, Bool.false_eq_true, if_true, if_false, reduceCtorEq, and_self, and_true, true_and, and_false, false_and, ec128, hlast]) ?_)
          (refine wpc_seq ?_); (refine wpc_region fun Kr hKr => ?_; simp only [go_sem, ↓reduceIte, Nat.reduceEqDiff, Nat.reduceAdd, Nat.reduceSub, Nat.reduceLeDiff, Nat.reduceMul, reduceCtorEq, Nat.reduceBEq, Int.reduceLT, Int.reduceLE, Int.reduceNeg, Int.reduceEq, h0, h1, h4, h13, w1, w2]; with_reducible refine hKr _ ?_; clear hKr Kr)
          (refine endsV (x := _) (σ' := _) (by simp only [retOf, retVals, oneOrTup, callArgs, callArgsL, evAll, ev, lk, shutAll, shut, nrm, nrm0, nrm1, upd, ↓reduceIte, Nat.reduceEqDiff, List.map_nil, List.map_cons, eq_self, if_true, if_false, reduceCtorEq, and_self, ownRes]; rfl) ?_)
          rw [gvAt_ok (by omega) (hg.trans hgd)]; rfl
        · rw [if_neg hlast] at hgd
          (refine wpc_false (by simp only [ev, lk, Nat.reduceEqDiff, ↓reduceIte, decide_true, decide_false, Bool.not_true, Bool.not_false, Bool.true_and, Bool.false_and, Bool.and_true, Bool.and_false, Bool.or_false, Bool.false_or, Bool.true_or, Bool.or_true, Bool.and_self, Bool.or_self, Int.cast_ofNat_Int, Int.natCast_inj, Int.ofNat_lt, Int.ofNat_le, Int.natCast_nonneg, eq_self, Int.reduceLT, Int.reduceLE, Int.reduceEq, Bool.false_eq_true, if_true, if_false, reduceCtorEq, and_self, and_true, true_and, and_false, false_and, ec128, hlast]) ?_)
          (refine wpc_skip' ?_)
          have w3 : IntKind.i64.wrap ((i : Int) + 1) = ((i + 1 : Nat) : Int) := by rw [wrap_i64 (by omega) (by omega)]; omega
          (refine wpc_region fun Kr hKr => ?_; simp only [go_sem, ↓reduceIte, Nat.reduceEqDiff, Nat.reduceAdd, Nat.reduceSub, Nat.reduceLeDiff, Nat.reduceMul, reduceCtorEq, Nat.reduceBEq, Int.reduceLT, Int.reduceLE, Int.reduceNeg, Int.reduceEq, h13, w3]; with_reducible refine hKr _ ?_; clear hKr Kr)
          have hi9 : i ≠ 9 := by intro h; omega
          refine hK _ (10 - (i + 1)) (by omega) ⟨i + 1, _, rfl, by omega, by omega, ?_, hg.trans hgd, rfl, ?_, ?_, ?_, ?_⟩
          · have h1 : b.toNat % 128 < 128 := Nat.mod_lt _ (by omega)
            have h2 : b.toNat % 128 * 128 ^ i ≤ 127 * 128 ^ i := Nat.mul_le_mul_right _ (by omega)
            rw [Nat.pow_succ]; omega
          · simp only [go_sem, ↓reduceIte, Nat.reduceEqDiff, Nat.reduceAdd, Nat.reduceSub, Nat.reduceLeDiff, Nat.reduceMul, reduceCtorEq, Nat.reduceBEq, Int.reduceLT, Int.reduceLE, Int.reduceNeg, Int.reduceEq, h0]
          · simp only [go_sem, ↓reduceIte, Nat.reduceEqDiff, Nat.reduceAdd, Nat.reduceSub, Nat.reduceLeDiff, Nat.reduceMul, reduceCtorEq, Nat.reduceBEq, Int.reduceLT, Int.reduceLE, Int.reduceNeg, Int.reduceEq, h1]
          · simp only [go_sem, ↓reduceIte, Nat.reduceEqDiff, Nat.reduceAdd, Nat.reduceSub, Nat.reduceLeDiff, Nat.reduceMul, reduceCtorEq, Nat.reduceBEq, Int.reduceLT, Int.reduceLE, Int.reduceNeg, Int.reduceEq]
          · simp only [go_sem, ↓reduceIte, Nat.reduceEqDiff, Nat.reduceAdd, Nat.reduceSub, Nat.reduceLeDiff, Nat.reduceMul, reduceCtorEq, Nat.reduceBEq, Int.reduceLT, Int.reduceLE, Int.reduceNeg, Int.reduceEq]
  · (with_reducible refine hKr _ ?_; clear hKr Kr)
    (refine wpc_true (by simp only [ev, lk, Nat.reduceEqDiff, ↓reduceIte, decide_true, decide_false, Bool.not_true, Bool.not_false, Bool.true_and, Bool.false_and, Bool.and_true, Bool.and_false, Bool.or_false, Bool.false_or, Bool.true_or, Bool.or_true, Bool.and_self, Bool.or_self, Int.cast_ofNat_Int, Int.natCast_inj, Int.ofNat_lt, Int.ofNat_le, Int.natCast_nonneg, eq_self, Int.reduceLT, Int.reduceLE, Int.reduceEq, Bool.false_eq_true, if_true, if_false, reduceCtorEq, and_self, and_true, true_and, and_false, false_and, hp]) ?_)
    (refine wpc_seq ?_); (refine wpc_region fun Kr hKr => ?_; simp only [go_sem, ↓reduceIte, Nat.reduceEqDiff, Nat.reduceAdd, Nat.reduceSub, Nat.reduceLeDiff, Nat.reduceMul, reduceCtorEq, Nat.reduceBEq, Int.reduceLT, Int.reduceLE, Int.reduceNeg, Int.reduceEq]; with_reducible refine hKr _ ?_; clear hKr Kr)
    (refine endsV (x := _) (σ' := _) (by simp only [retOf, retVals, oneOrTup, callArgs, callArgsL, evAll, ev, lk, shutAll, shut, nrm, nrm0, nrm1, upd, ↓reduceIte, Nat.reduceEqDiff, List.map_nil, List.map_cons, eq_self, if_true, if_false, reduceCtorEq, and_self, ownRes]; rfl) ?_)
    rw [gvAt_out hp]; rfl
theorem i64_64 : IntKind.u64.bits = 64 := rfl
theorem shr7 (m : Nat) : Int.fdiv (m : Int) (2 ^ (min ((7 : Int).toNat) IntKind.u64.bits)) = ((m / 128 : Nat) : Int) := by
  rw [show ((2 : Int) ^ (min ((7 : Int).toNat) IntKind.u64.bits)) = ((128 : Nat) : Int) by decide]
  rw [Int.fdiv_eq_ediv_of_nonneg _ (by omega)]; omega
theorem u8_mod (m : Nat) : IntKind.u8.wrap (m : Int) = ((m % 256 : Nat) : Int) := by
  rw [IntKind.wrap_u8]; omega
theorem or128 (m : Nat) : bitOp .or .u8 (IntKind.u8.wrap (m : Int)) 128 = ((m % 128 + 128 : Nat) : Int) := by
  rw [u8_mod]
  unfold bitOp
  have hm : m % 256 < 2 ^ 8 := by omega
  have h1 : (BitVec.ofInt IntKind.u8.bits ((m % 256 : Nat) : Int) ||| BitVec.ofInt IntKind.u8.bits 128).toNat = m % 128 + 128 := by
    rw [BitVec.toNat_or, u8_bits, ofInt_nat (m % 256) hm, show ((128 : Int)) = ((128 : Nat) : Int) by rfl, ofInt_nat 128 (by decide)]
    have h := Nat.shiftLeft_add_eq_or_of_lt (i := 7) (show m % 128 < 2 ^ 7 by omega) 1
    have e : (m % 256) ||| 128 = (m % 128) ||| 128 := by
      by_cases hb : m % 256 < 128
      · have : m % 256 = m % 128 := by omega
        rw [this]
      · have h3 := Nat.shiftLeft_add_eq_or_of_lt (i := 7) (show m % 128 < 2 ^ 7 by omega) 1
        have : m % 256 = (1 <<< 7) ||| (m % 128) := by rw [← h3, Nat.shiftLeft_eq]; omega
        rw [this, Nat.or_comm _ 128, ← Nat.or_assoc, show (128 ||| 1 <<< 7) = 128 by decide, Nat.or_comm]
    rw [e, Nat.or_comm]
    have h' : 128 + m % 128 = 128 ||| m % 128 := h
    omega
  simp only [h1]
  exact wrap_u8 (by omega) (by omega)
theorem encB_ofNat {m : Nat} (h : m < 256) : encB (UInt8.ofNat m) = .int .u8 (m : Int) := by
  unfold encB
  rw [UInt8.toNat_ofNat']
  have : m % 2 ^ 8 = m := Nat.mod_eq_of_lt (by omega)
  rw [this]
theorem pvL_len {n : Nat} : ∀ k, n < 128 ^ (k + 1) → (pvL n).length ≤ k + 1 := by
  intro k
  induction k generalizing n with
  | zero => intro h; rw [pvL_small (by simpa using h)]; simp
  | succ k ih =>
    intro h
    by_cases hn : n < 128
    · rw [pvL_small hn]; simp
    · rw [pvL_big (by omega)]
      have := ih (n := n / 128) (by rw [Nat.pow_succ] at h; omega)
      simp; omega
theorem pvL_len10 {n : Nat} (h : n < 18446744073709551616) : (pvL n).length ≤ 10 := pvL_len 9 (by omega)
theorem pvL_pos (n : Nat) : 0 < (pvL n).length := by
  by_cases h : n < 128
  · rw [pvL_small h]; simp
  · rw [pvL_big (by omega)]; simp

theorem varint_lc (e : Nat) (he : e = 5) (xs : List IV) (n : Nat) (hn : n < 18446744073709551616) (hx : xs.length ≤ 140737488355318) : LC Try.prog i_wire_varint e 1 xs [.int .u64 n] (· = xs ++ (pvL n).map encB) := by
  subst he
  unfold LC
  refine GC.of F_wire_varint T_wire_varint L_wire_varint ?_
  unfold A_wire_varint
  simp only [args0, zl0, zl1, zl2, zl3]
  (refine wpc_seq ?_); (refine wpc_region fun Kr hKr => ?_; simp only [go_sem, ↓reduceIte, Nat.reduceEqDiff, Nat.reduceAdd, Nat.reduceSub, Nat.reduceLeDiff, Nat.reduceMul, reduceCtorEq, Nat.reduceBEq, Int.reduceLT, Int.reduceLE, Int.reduceNeg, Int.reduceEq]; with_reducible refine hKr _ ?_; clear hKr Kr)
  (refine wpc_seq ?_)
  show wpc _ (.block 0 (.loop _)) _ _
  refine wpc_loop (fun m s => ∃ (v : Nat) (ys : List UInt8), ys.length + (pvL m).length ≤ 10 ∧ m < 18446744073709551616 ∧ ys ++ pvL m = pvL n ∧ s.σ = [(0, v, .list 5 1 (xs ++ ys.map encB))] ∧ lk s.ρ 0 = some (.lst 0 v) ∧ lk s.ρ 1 = some (.iv (.int .u64 (m : Int)))) n
    ⟨0, [], by have := pvL_len10 hn; simpa using this, hn, by simp, ?_, ?_, ?_⟩ ?_
  · simp only [go_sem, ↓reduceIte, Nat.reduceEqDiff, Nat.reduceAdd, Nat.reduceSub, Nat.reduceLeDiff, Nat.reduceMul, reduceCtorEq, Nat.reduceBEq, Int.reduceLT, Int.reduceLE, Int.reduceNeg, Int.reduceEq, List.append_nil]
  · simp only [go_sem, ↓reduceIte, Nat.reduceEqDiff, Nat.reduceAdd, Nat.reduceSub, Nat.reduceLeDiff, Nat.reduceMul, reduceCtorEq, Nat.reduceBEq, Int.reduceLT, Int.reduceLE, Int.reduceNeg, Int.reduceEq]
  · simp only [go_sem, ↓reduceIte, Nat.reduceEqDiff, Nat.reduceAdd, Nat.reduceSub, Nat.reduceLeDiff, Nat.reduceMul, reduceCtorEq, Nat.reduceBEq, Int.reduceLT, Int.reduceLE, Int.reduceNeg, Int.reduceEq]
  rintro m s ⟨v, ys, hl, hm, hy, hσ, h0, h1⟩ K hK
  obtain ⟨ρ, σ⟩ := s
  simp only at hσ h0 h1
  subst hσ
  (refine wpc_seq ?_); (refine wpc_seq ?_); (refine wpc_region fun Kr hKr => ?_; simp only [go_sem, ↓reduceIte, Nat.reduceEqDiff, Nat.reduceAdd, Nat.reduceSub, Nat.reduceLeDiff, Nat.reduceMul, reduceCtorEq, Nat.reduceBEq, Int.reduceLT, Int.reduceLE, Int.reduceNeg, Int.reduceEq, h0, h1]; with_reducible refine hKr _ ?_; clear hKr Kr)
  have e128 : ((128 : Int) ≤ (m : Int)) ↔ 128 ≤ m := by omega
  by_cases hb : 128 ≤ m
  · (refine wpc_true (by simp only [ev, lk, Nat.reduceEqDiff, ↓reduceIte, decide_true, decide_false, Bool.not_true, Bool.not_false, Bool.true_and, Bool.false_and, Bool.and_true, Bool.and_false, Bool.or_false, Bool.false_or, Bool.true_or, Bool.or_true, Bool.and_self, Bool.or_self, Int.cast_ofNat_Int, Int.natCast_inj, Int.ofNat_lt, Int.ofNat_le, Int.natCast_nonneg, eq_self, Int.reduceLT, Int.reduceLE, Int.reduceEq, Bool.false_eq_true, if_true, if_false, reduceCtorEq, and_self, and_true, true_and, and_false, false_and, e128, hb]) ?_)
    (refine wpc_skip' ?_)
    (refine wpc_seq ?_)
    have ho := or128 m
    rw [pvL_big hb] at hl hy
    simp only [List.length_cons] at hl
    have hlen : xs.length + ys.length + 1 ≤ 140737488355328 := by omega
    (refine wpc_region fun Kr hKr => ?_; simp only [go_sem, ↓reduceIte, Nat.reduceEqDiff, Nat.reduceAdd, Nat.reduceSub, Nat.reduceLeDiff, Nat.reduceMul, reduceCtorEq, Nat.reduceBEq, Int.reduceLT, Int.reduceLE, Int.reduceNeg, Int.reduceEq, h0, h1, ho, hlen]; with_reducible refine hKr _ ?_; clear hKr Kr)
    have hs := shr7 m
    have g : ¬ ((7 : Int) < 0) := by omega
    (refine wpc_region fun Kr hKr => ?_; simp only [go_sem, ↓reduceIte, Nat.reduceEqDiff, Nat.reduceAdd, Nat.reduceSub, Nat.reduceLeDiff, Nat.reduceMul, reduceCtorEq, Nat.reduceBEq, Int.reduceLT, Int.reduceLE, Int.reduceNeg, Int.reduceEq, h1, shfOp, hs, g]; with_reducible refine hKr _ ?_; clear hKr Kr)
    refine hK _ (m / 128) (by omega) ⟨v + 1, ys ++ [UInt8.ofNat (m % 128 + 128)], by simp only [List.length_append, List.length_cons, List.length_nil]; omega, by omega, by rw [List.append_assoc]; exact hy, ?_, ?_, ?_⟩
    · simp only [go_sem, ↓reduceIte, Nat.reduceEqDiff, Nat.reduceAdd, Nat.reduceSub, Nat.reduceLeDiff, Nat.reduceMul, reduceCtorEq, Nat.reduceBEq, Int.reduceLT, Int.reduceLE, Int.reduceNeg, Int.reduceEq, List.map_append, encB_ofNat (show m % 128 + 128 < 256 by omega), List.append_assoc]
    · simp only [go_sem, ↓reduceIte, Nat.reduceEqDiff, Nat.reduceAdd, Nat.reduceSub, Nat.reduceLeDiff, Nat.reduceMul, reduceCtorEq, Nat.reduceBEq, Int.reduceLT, Int.reduceLE, Int.reduceNeg, Int.reduceEq]
    · simp only [go_sem, ↓reduceIte, Nat.reduceEqDiff, Nat.reduceAdd, Nat.reduceSub, Nat.reduceLeDiff, Nat.reduceMul, reduceCtorEq, Nat.reduceBEq, Int.reduceLT, Int.reduceLE, Int.reduceNeg, Int.reduceEq]
  · (refine wpc_false (by simp only [ev, lk, Nat.reduceEqDiff, ↓reduceIte, decide_true, decide_false, Bool.not_true, Bool.not_false, Bool.true_and, Bool.false_and, Bool.and_true, Bool.and_false, Bool.or_false, Bool.false_or, Bool.true_or, Bool.or_true, Bool.and_self, Bool.or_self, Int.cast_ofNat_Int, Int.natCast_inj, Int.ofNat_lt, Int.ofNat_le, Int.natCast_nonneg, eq_self, Int.reduceLT, Int.reduceLE, Int.reduceEq, Bool.false_eq_true, if_true, if_false, reduceCtorEq, and_self, and_true, true_and, and_false, false_and, e128, hb]) ?_)
    show wpc _ (.seq _ _) _ _
    have ho := u8_mod m
    have hm8 : m % 256 = m := by omega
    rw [hm8] at ho
    have hlen : xs.length + ys.length + 1 ≤ 140737488355328 := by
      have := pvL_pos m
      omega
    (refine wpc_seq ?_); (refine wpc_region fun Kr hKr => ?_; simp only [go_sem, ↓reduceIte, Nat.reduceEqDiff, Nat.reduceAdd, Nat.reduceSub, Nat.reduceLeDiff, Nat.reduceMul, reduceCtorEq, Nat.reduceBEq, Int.reduceLT, Int.reduceLE, Int.reduceNeg, Int.reduceEq, h0, h1, ho, hlen]; with_reducible refine hKr _ ?_; clear hKr Kr)
    simp only [thenC, wpc_ret]
    refine endsIn_ret (vs := [.lst 0 (v + 1)]) ?_ ?_
    · simp only [go_sem, ↓reduceIte, Nat.reduceEqDiff, Nat.reduceAdd, Nat.reduceSub, Nat.reduceLeDiff, Nat.reduceMul, reduceCtorEq, Nat.reduceBEq, Int.reduceLT, Int.reduceLE, Int.reduceNeg, Int.reduceEq]
    · refine ⟨_, _, rfl, rfl, ?_⟩
      rw [pvL_small (show m < 128 by omega)] at hy
      rw [← hy, List.map_append, ← List.append_assoc, List.map_cons, encB_ofNat (by omega)]
      rfl
def BL (n r : Nat) : Prop := n < 2 ^ r ∧ (0 < r → 2 ^ (r - 1) ≤ n)

def lenTab : List UInt8 := [0, 1, 2, 2, 3, 3, 3, 3, 4, 4, 4, 4, 4, 4, 4, 4, 5, 5, 5, 5, 5, 5, 5, 5, 5, 5, 5, 5, 5, 5, 5, 5, 6, 6, 6, 6, 6, 6, 6, 6, 6, 6, 6, 6, 6, 6, 6, 6, 6, 6, 6, 6, 6, 6, 6, 6, 6, 6, 6, 6, 6, 6, 6, 6, 7, 7, 7, 7, 7, 7, 7, 7, 7, 7, 7, 7, 7, 7, 7, 7, 7, 7, 7, 7, 7, 7, 7, 7, 7, 7, 7, 7, 7, 7, 7, 7, 7, 7, 7, 7, 7, 7, 7, 7, 7, 7, 7, 7, 7, 7, 7, 7, 7, 7, 7, 7, 7, 7, 7, 7, 7, 7, 7, 7, 7, 7, 7, 7, 8, 8, 8, 8, 8, 8, 8, 8, 8, 8, 8, 8, 8, 8, 8, 8, 8, 8, 8, 8, 8, 8, 8, 8, 8, 8, 8, 8, 8, 8, 8, 8, 8, 8, 8, 8, 8, 8, 8, 8, 8, 8, 8, 8, 8, 8, 8, 8, 8, 8, 8, 8, 8, 8, 8, 8, 8, 8, 8, 8, 8, 8, 8, 8, 8, 8, 8, 8, 8, 8, 8, 8, 8, 8, 8, 8, 8, 8, 8, 8, 8, 8, 8, 8, 8, 8, 8, 8, 8, 8, 8, 8, 8, 8, 8, 8, 8, 8, 8, 8, 8, 8, 8, 8, 8, 8, 8, 8, 8, 8, 8, 8, 8, 8, 8, 8, 8, 8, 8, 8, 8, 8, 8, 8, 8, 8, 8, 8]

theorem lenTab_ok : ∀ m : Fin 256, lenTab[m.val]?.isSome = true ∧ m.val < 2 ^ (lenTab.getD m.val 0).toNat ∧ (0 < (lenTab.getD m.val 0).toNat → 2 ^ ((lenTab.getD m.val 0).toNat - 1) ≤ m.val) := by decide +kernel

theorem BL.up {n r k : Nat} (h : BL (n / 2 ^ k) r) (hk : 2 ^ k ≤ n) : BL n (k + r) := by
  obtain ⟨h1, h2⟩ := h
  have hp : 0 < 2 ^ k := Nat.pow_pos (by omega)
  have h3 : n / 2 ^ k ≠ 0 := by
    intro h; rw [Nat.div_eq_zero_iff] at h; omega
  have hr : 0 < r := by
    cases r with
    | zero => simp at h1; omega
    | succ r => omega
  refine ⟨?_, fun _ => ?_⟩
  · rw [Nat.pow_add, Nat.mul_comm]
    exact (Nat.div_lt_iff_lt_mul hp).1 h1
  · have := h2 hr
    rw [show k + r - 1 = (r - 1) + k by omega, Nat.pow_add]
    exact (Nat.le_div_iff_mul_le hp).1 this

theorem pvL_bl : ∀ r n : Nat, BL n r → (pvL n).length = (max 1 r + 6) / 7 := by
  intro r
  induction r using Nat.strongRecOn with
  | ind r ih =>
    intro n h
    by_cases hr : r ≤ 7
    · have : n < 128 := Nat.lt_of_lt_of_le h.1 (by
        have := Nat.pow_le_pow_right (n := 2) (by omega) hr
        simpa using this)
      rw [pvL_small this]; simp; omega
    · have h2 := h.2 (by omega)
      have hn : 128 ≤ n := Nat.le_trans (by
        have := Nat.pow_le_pow_right (n := 2) (by omega) (show 7 ≤ r - 1 by omega)
        simpa using this) h2
      rw [pvL_big hn, List.length_cons, ih (r - 7) (by omega) (n / 128)]
      · omega
      · refine ⟨?_, fun _ => ?_⟩
        · refine (Nat.div_lt_iff_lt_mul (by omega)).2 ?_
          have : 2 ^ (r - 7) * 128 = 2 ^ r := by rw [show 128 = 2 ^ 7 by decide, ← Nat.pow_add]; congr 1; omega
          rw [this]; exact h.1
        · refine (Nat.le_div_iff_mul_le (by omega)).2 ?_
          have : 2 ^ (r - 7 - 1) * 128 = 2 ^ (r - 1) := by rw [show 128 = 2 ^ 7 by decide, ← Nat.pow_add]; congr 1; omega
          rw [this]; exact h2

theorem shrK (m k : Nat) (hk : k ≤ 64) : Int.fdiv (m : Int) (2 ^ (min ((k : Int).toNat) IntKind.u64.bits)) = ((m / 2 ^ k : Nat) : Int) := by
  have : min ((k : Int).toNat) IntKind.u64.bits = k := by rw [u64_bits]; omega
  rw [this, show ((2 : Int) ^ k) = ((2 ^ k : Nat) : Int) by simp]
  rw [Int.fdiv_eq_ediv_of_nonneg _ (Int.natCast_nonneg _)]; exact (Int.natCast_ediv _ _).symm

theorem len64_fc (n : Nat) (hn : n < 18446744073709551616) : FC Try.prog i_bits_Len64 [.int .u64 (n : Int)] (fun x => ∃ r : Nat, x = .int .i64 (r : Int) ∧ BL n r ∧ r ≤ 64) := by
  (refine .of F_bits_Len64 T_bits_Len64 L_bits_Len64 ?_; unfold A_bits_Len64; simp only [args0, zl0, zl1, zl2, zl3])
  (refine wpc_seq ?_); (refine wpc_region fun Kr hKr => ?_; simp only [go_sem, ↓reduceIte, Nat.reduceEqDiff, Nat.reduceAdd, Nat.reduceSub, Nat.reduceLeDiff, Nat.reduceMul, reduceCtorEq, Nat.reduceBEq, Int.reduceLT, Int.reduceLE, Int.reduceNeg, Int.reduceEq]; with_reducible refine hKr _ ?_; clear hKr Kr)
  (refine wpc_seq ?_); (refine wpc_seq ?_); (refine wpc_region fun Kr hKr => ?_; simp only [go_sem, ↓reduceIte, Nat.reduceEqDiff, Nat.reduceAdd, Nat.reduceSub, Nat.reduceLeDiff, Nat.reduceMul, reduceCtorEq, Nat.reduceBEq, Int.reduceLT, Int.reduceLE, Int.reduceNeg, Int.reduceEq]; with_reducible refine hKr _ ?_; clear hKr Kr)
  have e1 : ((4294967296 : Int) ≤ (n : Int)) ↔ 4294967296 ≤ n := by omega
  refine wpc_to (fun s => ∃ m k : Nat, m < 4294967296 ∧ k ≤ 32 ∧ (∀ r, BL m r → BL n (k + r)) ∧ s.σ = [] ∧ lk s.ρ 0 = some (.iv (.int .u64 (m : Int))) ∧ lk s.ρ 2 = some (.iv (.int .i64 (k : Int)))) ?_ ?_
  · by_cases h : 4294967296 ≤ n
    · (refine wpc_true (by simp only [ev, lk, Nat.reduceEqDiff, ↓reduceIte, decide_true, decide_false, Bool.not_true, Bool.not_false, Bool.true_and, Bool.false_and, Bool.and_true, Bool.and_false, Bool.or_false, Bool.false_or, Bool.true_or, Bool.or_true, Bool.and_self, Bool.or_self, Int.cast_ofNat_Int, Int.natCast_inj, Int.ofNat_lt, Int.ofNat_le, Int.natCast_nonneg, eq_self, Int.reduceLT, Int.reduceLE, Int.reduceEq, Bool.false_eq_true, if_true, if_false, reduceCtorEq, and_self, and_true, true_and, and_false, false_and, e1, h]) ?_)
      have g : ¬ ((32 : Int) < 0) := by omega
      have hs := shrK n 32 (by omega)
      (refine wpc_seq ?_); (refine wpc_region fun Kr hKr => ?_; simp only [go_sem, ↓reduceIte, Nat.reduceEqDiff, Nat.reduceAdd, Nat.reduceSub, Nat.reduceLeDiff, Nat.reduceMul, reduceCtorEq, Nat.reduceBEq, Int.reduceLT, Int.reduceLE, Int.reduceNeg, Int.reduceEq, shfOp, g, show Int.fdiv (n : Int) (2 ^ (min ((32 : Int).toNat) IntKind.u64.bits)) = ((n / 2 ^ 32 : Nat) : Int) from hs]; with_reducible refine hKr _ ?_; clear hKr Kr)
      (refine wpc_region fun Kr hKr => ?_; simp only [go_sem, ↓reduceIte, Nat.reduceEqDiff, Nat.reduceAdd, Nat.reduceSub, Nat.reduceLeDiff, Nat.reduceMul, reduceCtorEq, Nat.reduceBEq, Int.reduceLT, Int.reduceLE, Int.reduceNeg, Int.reduceEq]; with_reducible refine hKr _ ?_; clear hKr Kr)
      exact ⟨n / 2 ^ 32, 32, by omega, by omega, fun r hr => hr.up (by omega), rfl, by simp only [go_sem, ↓reduceIte, Nat.reduceEqDiff, Nat.reduceAdd, Nat.reduceSub, Nat.reduceLeDiff, Nat.reduceMul, reduceCtorEq, Nat.reduceBEq, Int.reduceLT, Int.reduceLE, Int.reduceNeg, Int.reduceEq], by simp only [go_sem, ↓reduceIte, Nat.reduceEqDiff, Nat.reduceAdd, Nat.reduceSub, Nat.reduceLeDiff, Nat.reduceMul, reduceCtorEq, Nat.reduceBEq, Int.reduceLT, Int.reduceLE, Int.reduceNeg, Int.reduceEq]⟩
    · (refine wpc_false (by simp only [ev, lk, Nat.reduceEqDiff, ↓reduceIte, decide_true, decide_false, Bool.not_true, Bool.not_false, Bool.true_and, Bool.false_and, Bool.and_true, Bool.and_false, Bool.or_false, Bool.false_or, Bool.true_or, Bool.or_true, Bool.and_self, Bool.or_self, Int.cast_ofNat_Int, Int.natCast_inj, Int.ofNat_lt, Int.ofNat_le, Int.natCast_nonneg, eq_self, Int.reduceLT, Int.reduceLE, Int.reduceEq, Bool.false_eq_true, if_true, if_false, reduceCtorEq, and_self, and_true, true_and, and_false, false_and, e1, h]) ?_)
      (refine wpc_skip' ?_)
      exact ⟨n, 0, by omega, by omega, fun r hr => by rw [Nat.zero_add]; exact hr, rfl, by simp only [go_sem, ↓reduceIte, Nat.reduceEqDiff, Nat.reduceAdd, Nat.reduceSub, Nat.reduceLeDiff, Nat.reduceMul, reduceCtorEq, Nat.reduceBEq, Int.reduceLT, Int.reduceLE, Int.reduceNeg, Int.reduceEq], by simp only [go_sem, ↓reduceIte, Nat.reduceEqDiff, Nat.reduceAdd, Nat.reduceSub, Nat.reduceLeDiff, Nat.reduceMul, reduceCtorEq, Nat.reduceBEq, Int.reduceLT, Int.reduceLE, Int.reduceNeg, Int.reduceEq]⟩
  rintro ⟨ρ, σ⟩ ⟨m, k, hm, hk, hr, hσ, h0, h2⟩
  simp only at hσ h0 h2
  subst hσ
  (refine wpc_seq ?_); (refine wpc_seq ?_); (refine wpc_region fun Kr hKr => ?_; simp only [go_sem, ↓reduceIte, Nat.reduceEqDiff, Nat.reduceAdd, Nat.reduceSub, Nat.reduceLeDiff, Nat.reduceMul, reduceCtorEq, Nat.reduceBEq, Int.reduceLT, Int.reduceLE, Int.reduceNeg, Int.reduceEq, h0]; with_reducible refine hKr _ ?_; clear hKr Kr)
  have e1 : ((65536 : Int) ≤ (m : Int)) ↔ 65536 ≤ m := by omega
  refine wpc_to (fun s => ∃ m k : Nat, m < 65536 ∧ k ≤ 48 ∧ (∀ r, BL m r → BL n (k + r)) ∧ s.σ = [] ∧ lk s.ρ 0 = some (.iv (.int .u64 (m : Int))) ∧ lk s.ρ 2 = some (.iv (.int .i64 (k : Int)))) ?_ ?_
  · by_cases h : 65536 ≤ m
    · (refine wpc_true (by simp only [ev, lk, Nat.reduceEqDiff, ↓reduceIte, decide_true, decide_false, Bool.not_true, Bool.not_false, Bool.true_and, Bool.false_and, Bool.and_true, Bool.and_false, Bool.or_false, Bool.false_or, Bool.true_or, Bool.or_true, Bool.and_self, Bool.or_self, Int.cast_ofNat_Int, Int.natCast_inj, Int.ofNat_lt, Int.ofNat_le, Int.natCast_nonneg, eq_self, Int.reduceLT, Int.reduceLE, Int.reduceEq, Bool.false_eq_true, if_true, if_false, reduceCtorEq, and_self, and_true, true_and, and_false, false_and, e1, h]) ?_)
      have g : ¬ ((16 : Int) < 0) := by omega
      have hs := shrK m 16 (by omega)
      (refine wpc_seq ?_); (refine wpc_region fun Kr hKr => ?_; simp only [go_sem, ↓reduceIte, Nat.reduceEqDiff, Nat.reduceAdd, Nat.reduceSub, Nat.reduceLeDiff, Nat.reduceMul, reduceCtorEq, Nat.reduceBEq, Int.reduceLT, Int.reduceLE, Int.reduceNeg, Int.reduceEq, h0, shfOp, g, show Int.fdiv (m : Int) (2 ^ (min ((16 : Int).toNat) IntKind.u64.bits)) = ((m / 2 ^ 16 : Nat) : Int) from hs]; with_reducible refine hKr _ ?_; clear hKr Kr)
      have hw : IntKind.i64.wrap ((k : Int) + 16) = ((k + 16 : Nat) : Int) := by rw [wrap_i64 (by omega) (by omega)]; omega
      (refine wpc_region fun Kr hKr => ?_; simp only [go_sem, ↓reduceIte, Nat.reduceEqDiff, Nat.reduceAdd, Nat.reduceSub, Nat.reduceLeDiff, Nat.reduceMul, reduceCtorEq, Nat.reduceBEq, Int.reduceLT, Int.reduceLE, Int.reduceNeg, Int.reduceEq, h2, hw]; with_reducible refine hKr _ ?_; clear hKr Kr)
      refine ⟨m / 2 ^ 16, k + 16, by omega, by omega, fun r hr' => by rw [Nat.add_assoc]; exact hr _ (hr'.up (by omega)), rfl, by simp only [go_sem, ↓reduceIte, Nat.reduceEqDiff, Nat.reduceAdd, Nat.reduceSub, Nat.reduceLeDiff, Nat.reduceMul, reduceCtorEq, Nat.reduceBEq, Int.reduceLT, Int.reduceLE, Int.reduceNeg, Int.reduceEq], by simp only [go_sem, ↓reduceIte, Nat.reduceEqDiff, Nat.reduceAdd, Nat.reduceSub, Nat.reduceLeDiff, Nat.reduceMul, reduceCtorEq, Nat.reduceBEq, Int.reduceLT, Int.reduceLE, Int.reduceNeg, Int.reduceEq]⟩
    · (refine wpc_false (by simp only [ev, lk, Nat.reduceEqDiff, ↓reduceIte, decide_true, decide_false, Bool.not_true, Bool.not_false, Bool.true_and, Bool.false_and, Bool.and_true, Bool.and_false, Bool.or_false, Bool.false_or, Bool.true_or, Bool.or_true, Bool.and_self, Bool.or_self, Int.cast_ofNat_Int, Int.natCast_inj, Int.ofNat_lt, Int.ofNat_le, Int.natCast_nonneg, eq_self, Int.reduceLT, Int.reduceLE, Int.reduceEq, Bool.false_eq_true, if_true, if_false, reduceCtorEq, and_self, and_true, true_and, and_false, false_and, e1, h]) ?_)
      (refine wpc_skip' ?_)
      exact ⟨m, k, by omega, by omega, hr, rfl, by simp only [go_sem, ↓reduceIte, Nat.reduceEqDiff, Nat.reduceAdd, Nat.reduceSub, Nat.reduceLeDiff, Nat.reduceMul, reduceCtorEq, Nat.reduceBEq, Int.reduceLT, Int.reduceLE, Int.reduceNeg, Int.reduceEq, h0], by simp only [go_sem, ↓reduceIte, Nat.reduceEqDiff, Nat.reduceAdd, Nat.reduceSub, Nat.reduceLeDiff, Nat.reduceMul, reduceCtorEq, Nat.reduceBEq, Int.reduceLT, Int.reduceLE, Int.reduceNeg, Int.reduceEq, h2]⟩
  clear h0 h2 hr hm hk e1 m k ρ
  rintro ⟨ρ, σ⟩ ⟨m, k, hm, hk, hr, hσ, h0, h2⟩
  simp only at hσ h0 h2
  subst hσ
  (refine wpc_seq ?_); (refine wpc_seq ?_); (refine wpc_region fun Kr hKr => ?_; simp only [go_sem, ↓reduceIte, Nat.reduceEqDiff, Nat.reduceAdd, Nat.reduceSub, Nat.reduceLeDiff, Nat.reduceMul, reduceCtorEq, Nat.reduceBEq, Int.reduceLT, Int.reduceLE, Int.reduceNeg, Int.reduceEq, h0]; with_reducible refine hKr _ ?_; clear hKr Kr)
  have e1 : ((256 : Int) ≤ (m : Int)) ↔ 256 ≤ m := by omega
  refine wpc_to (fun s => ∃ m k : Nat, m < 256 ∧ k ≤ 56 ∧ (∀ r, BL m r → BL n (k + r)) ∧ s.σ = [] ∧ lk s.ρ 0 = some (.iv (.int .u64 (m : Int))) ∧ lk s.ρ 2 = some (.iv (.int .i64 (k : Int)))) ?_ ?_
  · by_cases h : 256 ≤ m
    · (refine wpc_true (by simp only [ev, lk, Nat.reduceEqDiff, ↓reduceIte, decide_true, decide_false, Bool.not_true, Bool.not_false, Bool.true_and, Bool.false_and, Bool.and_true, Bool.and_false, Bool.or_false, Bool.false_or, Bool.true_or, Bool.or_true, Bool.and_self, Bool.or_self, Int.cast_ofNat_Int, Int.natCast_inj, Int.ofNat_lt, Int.ofNat_le, Int.natCast_nonneg, eq_self, Int.reduceLT, Int.reduceLE, Int.reduceEq, Bool.false_eq_true, if_true, if_false, reduceCtorEq, and_self, and_true, true_and, and_false, false_and, e1, h]) ?_)
      have g : ¬ ((8 : Int) < 0) := by omega
      have hs := shrK m 8 (by omega)
      (refine wpc_seq ?_); (refine wpc_region fun Kr hKr => ?_; simp only [go_sem, ↓reduceIte, Nat.reduceEqDiff, Nat.reduceAdd, Nat.reduceSub, Nat.reduceLeDiff, Nat.reduceMul, reduceCtorEq, Nat.reduceBEq, Int.reduceLT, Int.reduceLE, Int.reduceNeg, Int.reduceEq, h0, shfOp, g, show Int.fdiv (m : Int) (2 ^ (min ((8 : Int).toNat) IntKind.u64.bits)) = ((m / 2 ^ 8 : Nat) : Int) from hs]; with_reducible refine hKr _ ?_; clear hKr Kr)
      have hw : IntKind.i64.wrap ((k : Int) + 8) = ((k + 8 : Nat) : Int) := by rw [wrap_i64 (by omega) (by omega)]; omega
      (refine wpc_region fun Kr hKr => ?_; simp only [go_sem, ↓reduceIte, Nat.reduceEqDiff, Nat.reduceAdd, Nat.reduceSub, Nat.reduceLeDiff, Nat.reduceMul, reduceCtorEq, Nat.reduceBEq, Int.reduceLT, Int.reduceLE, Int.reduceNeg, Int.reduceEq, h2, hw]; with_reducible refine hKr _ ?_; clear hKr Kr)
      refine ⟨m / 2 ^ 8, k + 8, by omega, by omega, fun r hr' => by rw [Nat.add_assoc]; exact hr _ (hr'.up (by omega)), rfl, by simp only [go_sem, ↓reduceIte, Nat.reduceEqDiff, Nat.reduceAdd, Nat.reduceSub, Nat.reduceLeDiff, Nat.reduceMul, reduceCtorEq, Nat.reduceBEq, Int.reduceLT, Int.reduceLE, Int.reduceNeg, Int.reduceEq], by simp only [go_sem, ↓reduceIte, Nat.reduceEqDiff, Nat.reduceAdd, Nat.reduceSub, Nat.reduceLeDiff, Nat.reduceMul, reduceCtorEq, Nat.reduceBEq, Int.reduceLT, Int.reduceLE, Int.reduceNeg, Int.reduceEq]⟩
    · (refine wpc_false (by simp only [ev, lk, Nat.reduceEqDiff, ↓reduceIte, decide_true, decide_false, Bool.not_true, Bool.not_false, Bool.true_and, Bool.false_and, Bool.and_true, Bool.and_false, Bool.or_false, Bool.false_or, Bool.true_or, Bool.or_true, Bool.and_self, Bool.or_self, Int.cast_ofNat_Int, Int.natCast_inj, Int.ofNat_lt, Int.ofNat_le, Int.natCast_nonneg, eq_self, Int.reduceLT, Int.reduceLE, Int.reduceEq, Bool.false_eq_true, if_true, if_false, reduceCtorEq, and_self, and_true, true_and, and_false, false_and, e1, h]) ?_)
      (refine wpc_skip' ?_)
      exact ⟨m, k, by omega, by omega, hr, rfl, by simp only [go_sem, ↓reduceIte, Nat.reduceEqDiff, Nat.reduceAdd, Nat.reduceSub, Nat.reduceLeDiff, Nat.reduceMul, reduceCtorEq, Nat.reduceBEq, Int.reduceLT, Int.reduceLE, Int.reduceNeg, Int.reduceEq, h0], by simp only [go_sem, ↓reduceIte, Nat.reduceEqDiff, Nat.reduceAdd, Nat.reduceSub, Nat.reduceLeDiff, Nat.reduceMul, reduceCtorEq, Nat.reduceBEq, Int.reduceLT, Int.reduceLE, Int.reduceNeg, Int.reduceEq, h2]⟩
  clear h0 h2 hr hm hk e1 m k ρ
  rintro ⟨ρ, σ⟩ ⟨m, k, hm, hk, hr, hσ, h0, h2⟩
  simp only at hσ h0 h2
  subst hσ
  (refine wpc_seq ?_)
  have hu : IntKind.u8.wrap (m : Int) = (m : Int) := wrap_u8 (by omega) (by omega)
  have ht := lenTab_ok ⟨m, hm⟩
  simp only at ht
  obtain ⟨z, hz⟩ := Option.isSome_iff_exists.1 ht.1
  have hgd : lenTab.getD m 0 = z := by rw [List.getD_eq_getElem?_getD, hz]; rfl
  rw [hgd] at ht
  have hbl : BL m z.toNat := ⟨ht.2.1, ht.2.2⟩
  have hz8 : z.toNat ≤ 8 := by
    rcases Nat.lt_or_ge 8 z.toNat with h | h
    · have h1 := hbl.2 (by omega)
      have h2 := Nat.pow_le_pow_right (n := 2) (by omega) (show 8 ≤ z.toNat - 1 by omega)
      have : (2 : Nat) ^ 8 = 256 := by decide
      omega
    · exact h
  have hw1 : IntKind.i64.wrap (z.toNat : Int) = (z.toNat : Int) := wrap_i64 (by omega) (by omega)
  have hw2 : IntKind.i64.wrap ((k : Int) + (z.toNat : Int)) = ((k + z.toNat : Nat) : Int) := by rw [wrap_i64 (by omega) (by omega)]; omega
  unfold lenTab at hz
  (refine wpc_region fun Kr hKr => ?_; simp only [go_sem, ↓reduceIte, Nat.reduceEqDiff, Nat.reduceAdd, Nat.reduceSub, Nat.reduceLeDiff, Nat.reduceMul, reduceCtorEq, Nat.reduceBEq, Int.reduceLT, Int.reduceLE, Int.reduceNeg, Int.reduceEq, h0, h2, hu, hz, hw1, hw2]; with_reducible refine hKr _ ?_; clear hKr Kr)
  (refine endsV (x := _) (σ' := _) (by simp only [retOf, retVals, oneOrTup, callArgs, callArgsL, evAll, ev, lk, shutAll, shut, nrm, nrm0, nrm1, upd, ↓reduceIte, Nat.reduceEqDiff, List.map_nil, List.map_cons, eq_self, if_true, if_false, reduceCtorEq, and_self, ownRes]; rfl) ?_)
  exact ⟨_, rfl, hr _ hbl, by omega⟩

theorem size_fc (n : Nat) (hn : n < 18446744073709551616) : FC Try.prog i_wire_Size [.int .u64 (n : Int)] (· = .int .i64 ((pvL n).length : Int)) := by
  (refine .of F_wire_Size T_wire_Size L_wire_Size ?_; unfold A_wire_Size; simp only [args0, zl0, zl1, zl2, zl3])
  (refine wpc_seq ?_); (refine wpc_region fun Kr hKr => ?_; simp only [go_sem, ↓reduceIte, Nat.reduceEqDiff, Nat.reduceAdd, Nat.reduceSub, Nat.reduceLeDiff, Nat.reduceMul, reduceCtorEq, Nat.reduceBEq, Int.reduceLT, Int.reduceLE, Int.reduceNeg, Int.reduceEq]; with_reducible refine hKr _ ?_; clear hKr Kr)
  (refine wpc_seq ?_); (refine wpc_region fun Kr hKr => ?_; simp only [go_sem, ↓reduceIte, Nat.reduceEqDiff, Nat.reduceAdd, Nat.reduceSub, Nat.reduceLeDiff, Nat.reduceMul, reduceCtorEq, Nat.reduceBEq, Int.reduceLT, Int.reduceLE, Int.reduceNeg, Int.reduceEq])
  refine wpr_call (len64_fc n hn) (σ' := []) (by simp only [go_sem, ↓reduceIte, Nat.reduceEqDiff, Nat.reduceAdd, Nat.reduceSub, Nat.reduceLeDiff, Nat.reduceMul, reduceCtorEq, Nat.reduceBEq, Int.reduceLT, Int.reduceLE, Int.reduceNeg, Int.reduceEq]) ?_
  rintro x ⟨r, rfl, hr, hr64⟩
  have hl := pvL_bl r n hr
  have hm : IntKind.i64.wrap (IntKind.i64.wrap ((if (1 : Int) < (r : Int) then (r : Int) else 1) + 7) - 1) = ((max 1 r + 6 : Nat) : Int) := by
    have : (if (1 : Int) < (r : Int) then (r : Int) else 1) = ((max 1 r : Nat) : Int) := by split <;> omega
    rw [this, wrap_i64 (n := ((max 1 r : Nat) : Int) + 7) (by omega) (by omega), wrap_i64 (by omega) (by omega)]; omega
  have hd : IntKind.i64.wrap (((max 1 r + 6 : Nat) : Int).tdiv 7) = ((pvL n).length : Int) := by
    rw [IntWalk.i64_quo _ _ ⟨by omega, by omega, by omega⟩, hl]; omega
  simp only [go_sem, ↓reduceIte, Nat.reduceEqDiff, Nat.reduceAdd, Nat.reduceSub, Nat.reduceLeDiff, Nat.reduceMul, reduceCtorEq, Nat.reduceBEq, Int.reduceLT, Int.reduceLE, Int.reduceNeg, Int.reduceEq, hm, hd]
  (with_reducible refine hKr _ ?_; clear hKr Kr)
  (refine endsV (x := _) (σ' := _) (by simp only [retOf, retVals, oneOrTup, callArgs, callArgsL, evAll, ev, lk, shutAll, shut, nrm, nrm0, nrm1, upd, ↓reduceIte, Nat.reduceEqDiff, List.map_nil, List.map_cons, eq_self, if_true, if_false, reduceCtorEq, and_self, ownRes]; rfl) ?_)
  rfl
def zz (n : Int) : Int := if 0 ≤ n then 2 * n else -2 * n - 1
def zag (u : Int) : Int := if u % 2 = 0 then u / 2 else -(u / 2) - 1

theorem u64_mod (n : Int) : IntKind.u64.wrap n = n % 18446744073709551616 := by
  simp [IntKind.wrap, IntKind.bits, IntKind.signed]

theorem xor_zero {k : IntKind} (x : Int) : bitOp .xor k x 0 = k.wrap (BitVec.ofInt k.bits x).toNat := by
  unfold bitOp
  simp only [show BitVec.ofInt k.bits 0 = 0#_ by simp, BitVec.xor_zero]
theorem xor_ones {k : IntKind} (x y : Int) (hy : BitVec.ofInt k.bits y = BitVec.allOnes k.bits) : bitOp .xor k x y = k.wrap ((2 ^ k.bits - 1 - (BitVec.ofInt k.bits x).toNat : Nat)) := by
  unfold bitOp
  simp only [hy, BitVec.xor_allOnes, BitVec.toNat_not]
theorem and_one (u : Nat) (hu : u < 18446744073709551616) : bitOp .and .u64 (u : Int) 1 = ((u % 2 : Nat) : Int) := by
  unfold bitOp
  have h1 : (BitVec.ofInt IntKind.u64.bits (u : Int) &&& BitVec.ofInt IntKind.u64.bits 1).toNat = u % 2 := by
    rw [BitVec.toNat_and, u64_bits, ofInt_nat u (show u < 2 ^ 64 by omega), show ((1 : Int)) = ((1 : Nat) : Int) by rfl, ofInt_nat 1 (by decide)]
    exact Nat.and_one_is_mod u
  simp only [h1]
  exact wrap_u64 (by omega) (by omega)
theorem ofInt_toNat64 (x : Int) : ((BitVec.ofInt 64 x).toNat : Int) = x % 18446744073709551616 := by
  rw [BitVec.toNat_ofInt]; omega

theorem mk_toList (bs : List UInt8) : (ByteArray.mk bs.toArray).toList = bs := by rw [Lib.toList_data]

theorem putVarint_oc (n : Nat) (hn : n < 18446744073709551616) : OC Try.prog i_wire_PutVarint [.int .u64 (n : Int)] 5 1 ((pvL n).map encB) [] := by
  (refine OC.of F_wire_PutVarint T_wire_PutVarint L_wire_PutVarint ?_; unfold A_wire_PutVarint; simp only [args0, zl0, zl1, zl2, zl3])
  (refine wpc_seq ?_); (refine wpc_region fun Kr hKr => ?_; simp only [go_sem, ↓reduceIte, Nat.reduceEqDiff, Nat.reduceAdd, Nat.reduceSub, Nat.reduceLeDiff, Nat.reduceMul, reduceCtorEq, Nat.reduceBEq, Int.reduceLT, Int.reduceLE, Int.reduceNeg, Int.reduceEq]; with_reducible refine hKr _ ?_; clear hKr Kr)
  have hl := pvL_len10 hn
  have h0 : (0 : Int) ≤ ((pvL n).length : Int) := by omega
  have h1 : ((pvL n).length : Int) ≤ 140737488355328 := by omega
  (refine wpc_seq ?_); (refine wpc_region fun Kr hKr => ?_; simp only [go_sem, ↓reduceIte, Nat.reduceEqDiff, Nat.reduceAdd, Nat.reduceSub, Nat.reduceLeDiff, Nat.reduceMul, reduceCtorEq, Nat.reduceBEq, Int.reduceLT, Int.reduceLE, Int.reduceNeg, Int.reduceEq])
  (refine wpr_callE (size_fc n hn) (σ' := _) (by simp only [callArgs, callArgsL, evAll, ev, lk, shutAll, shut, nrm, nrm0, nrm1, upd, ↓reduceIte, Nat.reduceEqDiff, List.map_nil, List.map_cons, eq_self, if_true, if_false, reduceCtorEq, and_self, ownRes, h0, h1]; rfl) ?_; simp only [go_sem, ↓reduceIte, Nat.reduceEqDiff, Nat.reduceAdd, Nat.reduceSub, Nat.reduceLeDiff, Nat.reduceMul, reduceCtorEq, Nat.reduceBEq, Int.reduceLT, Int.reduceLE, Int.reduceNeg, Int.reduceEq, h0, h1])
  (refine wpr_callL (varint_lc 5 rfl [] n hn (by simp)) (by simp only [callArgs, callArgsL, evAll, ev, lk, shutAll, shut, nrm, nrm0, nrm1, upd, ↓reduceIte, Nat.reduceEqDiff, List.map_nil, List.map_cons, eq_self, if_true, if_false, reduceCtorEq, and_self, ownRes]; rfl) ?_; simp only [go_sem, ↓reduceIte, Nat.reduceEqDiff, Nat.reduceAdd, Nat.reduceSub, Nat.reduceLeDiff, Nat.reduceMul, reduceCtorEq, Nat.reduceBEq, Int.reduceLT, Int.reduceLE, Int.reduceNeg, Int.reduceEq])
  (with_reducible refine hKr _ ?_; clear hKr Kr)
  (simp only [thenC, wpc_ret]; refine endsO (by simp only [retOf, retVals, oneOrTup, callArgs, callArgsL, evAll, ev, lk, shutAll, shut, nrm, nrm0, nrm1, upd, ↓reduceIte, Nat.reduceEqDiff, List.map_nil, List.map_cons, eq_self, if_true, if_false, reduceCtorEq, and_self, ownRes]; rfl) ?_)
  rfl
theorem putVarint_fc (n : Nat) (hn : n < 18446744073709551616) : FC Try.prog i_wire_PutVarint [.int .u64 (n : Int)] (· = .slice ((pvL n).map encB)) := (putVarint_oc n hn).fc

theorem ref_putVarint_oc (n : Nat) (hn : n < 18446744073709551616) : OC Try.prog i_cartoucheref1_PutVarint [.int .u64 (n : Int)] 5 1 ((pvL n).map encB) [] := by
  (refine OC.of F_cartoucheref1_PutVarint T_cartoucheref1_PutVarint L_cartoucheref1_PutVarint ?_; unfold A_cartoucheref1_PutVarint; simp only [args0, zl0, zl1, zl2, zl3])
  (refine wpc_seq ?_); (refine wpc_region fun Kr hKr => ?_; simp only [go_sem, ↓reduceIte, Nat.reduceEqDiff, Nat.reduceAdd, Nat.reduceSub, Nat.reduceLeDiff, Nat.reduceMul, reduceCtorEq, Nat.reduceBEq, Int.reduceLT, Int.reduceLE, Int.reduceNeg, Int.reduceEq]; with_reducible refine hKr _ ?_; clear hKr Kr)
  (refine wpc_seq ?_); (refine wpc_region fun Kr hKr => ?_; simp only [go_sem, ↓reduceIte, Nat.reduceEqDiff, Nat.reduceAdd, Nat.reduceSub, Nat.reduceLeDiff, Nat.reduceMul, reduceCtorEq, Nat.reduceBEq, Int.reduceLT, Int.reduceLE, Int.reduceNeg, Int.reduceEq]; with_reducible refine hKr _ ?_; clear hKr Kr)
  (refine wpc_seq ?_)
  show wpc _ (.block 0 (.loop _)) _ _
  refine wpc_loop (fun m s => ∃ (ys : List UInt8), ys.length + (pvL m).length ≤ 10 ∧ m < 18446744073709551616 ∧ ys ++ pvL m = pvL n ∧
      ((ys = [] ∧ s.σ = [] ∧ lk s.ρ 3 = some (.iv .nil)) ∨ ∃ v, s.σ = [(0, v, .list 5 1 (ys.map encB))] ∧ lk s.ρ 3 = some (.lst 0 v)) ∧ lk s.ρ 0 = some (.iv (.int .u64 (m : Int)))) n
    ⟨[], by have := pvL_len10 hn; simpa using this, hn, by simp, .inl ⟨rfl, rfl, ?_⟩, ?_⟩ ?_
  · simp only [go_sem, ↓reduceIte, Nat.reduceEqDiff, Nat.reduceAdd, Nat.reduceSub, Nat.reduceLeDiff, Nat.reduceMul, reduceCtorEq, Nat.reduceBEq, Int.reduceLT, Int.reduceLE, Int.reduceNeg, Int.reduceEq]
  · simp only [go_sem, ↓reduceIte, Nat.reduceEqDiff, Nat.reduceAdd, Nat.reduceSub, Nat.reduceLeDiff, Nat.reduceMul, reduceCtorEq, Nat.reduceBEq, Int.reduceLT, Int.reduceLE, Int.reduceNeg, Int.reduceEq]
  rintro m s ⟨ys, hl, hm, hy, hsl, h0⟩ K hK
  obtain ⟨ρ, σ⟩ := s
  simp only at hsl h0
  (refine wpc_seq ?_); (refine wpc_seq ?_); (refine wpc_region fun Kr hKr => ?_; simp only [go_sem, ↓reduceIte, Nat.reduceEqDiff, Nat.reduceAdd, Nat.reduceSub, Nat.reduceLeDiff, Nat.reduceMul, reduceCtorEq, Nat.reduceBEq, Int.reduceLT, Int.reduceLE, Int.reduceNeg, Int.reduceEq, h0]; with_reducible refine hKr _ ?_; clear hKr Kr)
  have e128 : ((128 : Int) ≤ (m : Int)) ↔ 128 ≤ m := by omega
  have hlen : ys.length + 1 ≤ 140737488355328 := by
    have := pvL_pos m
    omega
  by_cases hb : 128 ≤ m
  · (refine wpc_true (by simp only [ev, lk, Nat.reduceEqDiff, ↓reduceIte, decide_true, decide_false, Bool.not_true, Bool.not_false, Bool.true_and, Bool.false_and, Bool.and_true, Bool.and_false, Bool.or_false, Bool.false_or, Bool.true_or, Bool.or_true, Bool.and_self, Bool.or_self, Int.cast_ofNat_Int, Int.natCast_inj, Int.ofNat_lt, Int.ofNat_le, Int.natCast_nonneg, eq_self, Int.reduceLT, Int.reduceLE, Int.reduceEq, Bool.false_eq_true, if_true, if_false, reduceCtorEq, and_self, and_true, true_and, and_false, false_and, e128, hb]) ?_)
    (refine wpc_skip' ?_)
    (refine wpc_seq ?_)
    have e1 : Int.tmod (m : Int) 128 = ((m % 128 : Nat) : Int) := by rw [IntWalk.rem_in _ _ (by omega)]; omega
    have e2 : IntKind.u8.wrap ((m % 128 : Nat) : Int) = ((m % 128 : Nat) : Int) := wrap_u8 (by omega) (by omega)
    have e3 : IntKind.u8.wrap (((m % 128 : Nat) : Int) + 128) = ((m % 128 + 128 : Nat) : Int) := by rw [wrap_u8 (by omega) (by omega)]; omega
    have e4 : IntKind.u64.wrap (Int.tdiv (m : Int) 128) = ((m / 128 : Nat) : Int) := by rw [IntWalk.u64_quo _ _ ⟨by omega, by omega, by omega⟩]; omega
    rw [pvL_big hb] at hl hy
    simp only [List.length_cons] at hl
    have fin : ∀ v ρ', lk ρ' 3 = some (.lst 0 v) → lk ρ' 0 = some (.iv (.int .u64 ((m / 128 : Nat) : Int))) → K { ρ := ρ', σ := [(0, v, .list 5 1 (ys.map encB ++ [.int .u8 ((m % 128 + 128 : Nat) : Int)]))] } := by
      intro v ρ' g3 g0
      refine hK _ (m / 128) (by omega) ⟨ys ++ [UInt8.ofNat (m % 128 + 128)], by simp only [List.length_append, List.length_cons, List.length_nil]; omega, by omega, by rw [List.append_assoc]; exact hy, .inr ⟨v, ?_, g3⟩, g0⟩
      simp only [List.map_append, encB_ofNat (show m % 128 + 128 < 256 by omega), List.map_cons, List.map_nil]
    rcases hsl with ⟨rfl, rfl, h3⟩ | ⟨v, rfl, h3⟩
    · (refine wpc_region fun Kr hKr => ?_; simp only [go_sem, ↓reduceIte, Nat.reduceEqDiff, Nat.reduceAdd, Nat.reduceSub, Nat.reduceLeDiff, Nat.reduceMul, reduceCtorEq, Nat.reduceBEq, Int.reduceLT, Int.reduceLE, Int.reduceNeg, Int.reduceEq, h0, h3, e1, e2, e3]; with_reducible refine hKr _ ?_; clear hKr Kr)
      (refine wpc_region fun Kr hKr => ?_; simp only [go_sem, ↓reduceIte, Nat.reduceEqDiff, Nat.reduceAdd, Nat.reduceSub, Nat.reduceLeDiff, Nat.reduceMul, reduceCtorEq, Nat.reduceBEq, Int.reduceLT, Int.reduceLE, Int.reduceNeg, Int.reduceEq, h0, e4]; with_reducible refine hKr _ ?_; clear hKr Kr)
      exact fin _ _ (by simp only [go_sem, ↓reduceIte, Nat.reduceEqDiff, Nat.reduceAdd, Nat.reduceSub, Nat.reduceLeDiff, Nat.reduceMul, reduceCtorEq, Nat.reduceBEq, Int.reduceLT, Int.reduceLE, Int.reduceNeg, Int.reduceEq]) (by simp only [go_sem, ↓reduceIte, Nat.reduceEqDiff, Nat.reduceAdd, Nat.reduceSub, Nat.reduceLeDiff, Nat.reduceMul, reduceCtorEq, Nat.reduceBEq, Int.reduceLT, Int.reduceLE, Int.reduceNeg, Int.reduceEq])
    · (refine wpc_region fun Kr hKr => ?_; simp only [go_sem, ↓reduceIte, Nat.reduceEqDiff, Nat.reduceAdd, Nat.reduceSub, Nat.reduceLeDiff, Nat.reduceMul, reduceCtorEq, Nat.reduceBEq, Int.reduceLT, Int.reduceLE, Int.reduceNeg, Int.reduceEq, h0, h3, e1, e2, e3, hlen]; with_reducible refine hKr _ ?_; clear hKr Kr)
      (refine wpc_region fun Kr hKr => ?_; simp only [go_sem, ↓reduceIte, Nat.reduceEqDiff, Nat.reduceAdd, Nat.reduceSub, Nat.reduceLeDiff, Nat.reduceMul, reduceCtorEq, Nat.reduceBEq, Int.reduceLT, Int.reduceLE, Int.reduceNeg, Int.reduceEq, h0, e4]; with_reducible refine hKr _ ?_; clear hKr Kr)
      exact fin _ _ (by simp only [go_sem, ↓reduceIte, Nat.reduceEqDiff, Nat.reduceAdd, Nat.reduceSub, Nat.reduceLeDiff, Nat.reduceMul, reduceCtorEq, Nat.reduceBEq, Int.reduceLT, Int.reduceLE, Int.reduceNeg, Int.reduceEq]) (by simp only [go_sem, ↓reduceIte, Nat.reduceEqDiff, Nat.reduceAdd, Nat.reduceSub, Nat.reduceLeDiff, Nat.reduceMul, reduceCtorEq, Nat.reduceBEq, Int.reduceLT, Int.reduceLE, Int.reduceNeg, Int.reduceEq])
  · (refine wpc_false (by simp only [ev, lk, Nat.reduceEqDiff, ↓reduceIte, decide_true, decide_false, Bool.not_true, Bool.not_false, Bool.true_and, Bool.false_and, Bool.and_true, Bool.and_false, Bool.or_false, Bool.false_or, Bool.true_or, Bool.or_true, Bool.and_self, Bool.or_self, Int.cast_ofNat_Int, Int.natCast_inj, Int.ofNat_lt, Int.ofNat_le, Int.natCast_nonneg, eq_self, Int.reduceLT, Int.reduceLE, Int.reduceEq, Bool.false_eq_true, if_true, if_false, reduceCtorEq, and_self, and_true, true_and, and_false, false_and, e128, hb]) ?_)
    show wpc _ (.seq _ _) _ _
    have ho := u8_mod m
    have hm8 : m % 256 = m := by omega
    rw [hm8] at ho
    rw [pvL_small (show m < 128 by omega)] at hy
    have he := encB_ofNat (show m < 256 by omega)
    rcases hsl with ⟨rfl, rfl, h3⟩ | ⟨v, rfl, h3⟩
    · (refine wpc_seq ?_); (refine wpc_region fun Kr hKr => ?_; simp only [go_sem, ↓reduceIte, Nat.reduceEqDiff, Nat.reduceAdd, Nat.reduceSub, Nat.reduceLeDiff, Nat.reduceMul, reduceCtorEq, Nat.reduceBEq, Int.reduceLT, Int.reduceLE, Int.reduceNeg, Int.reduceEq, h0, h3, ho]; with_reducible refine hKr _ ?_; clear hKr Kr)
      (simp only [thenC, wpc_ret]; refine endsO (by simp only [retOf, retVals, oneOrTup, callArgs, callArgsL, evAll, ev, lk, shutAll, shut, nrm, nrm0, nrm1, upd, ↓reduceIte, Nat.reduceEqDiff, List.map_nil, List.map_cons, eq_self, if_true, if_false, reduceCtorEq, and_self, ownRes]; rfl) ?_)
      rw [← hy, List.nil_append, List.map_cons, he]; rfl
    · (refine wpc_seq ?_); (refine wpc_region fun Kr hKr => ?_; simp only [go_sem, ↓reduceIte, Nat.reduceEqDiff, Nat.reduceAdd, Nat.reduceSub, Nat.reduceLeDiff, Nat.reduceMul, reduceCtorEq, Nat.reduceBEq, Int.reduceLT, Int.reduceLE, Int.reduceNeg, Int.reduceEq, h0, h3, ho, hlen]; with_reducible refine hKr _ ?_; clear hKr Kr)
      (simp only [thenC, wpc_ret]; refine endsO (by simp only [retOf, retVals, oneOrTup, callArgs, callArgsL, evAll, ev, lk, shutAll, shut, nrm, nrm0, nrm1, upd, ↓reduceIte, Nat.reduceEqDiff, List.map_nil, List.map_cons, eq_self, if_true, if_false, reduceCtorEq, and_self, ownRes]; rfl) ?_)
      rw [← hy, List.map_append, List.map_cons, he]; rfl
theorem ref_putVarint_fc (n : Nat) (hn : n < 18446744073709551616) : FC Try.prog i_cartoucheref1_PutVarint [.int .u64 (n : Int)] (· = .slice ((pvL n).map encB)) := (ref_putVarint_oc n hn).fc

theorem shl7 {i n c : Nat} (hi : i ≤ 9) : IntKind.u64.wrap (IntKind.i64.wrap (7 * (i : Int))) = 7 * (i : Int) := by
  rw [wrap_i64 (by omega) (by omega), wrap_u64 (by omega) (by omega)]

theorem ref_getVarint_fc (bs : List UInt8) (a : Nat) (ha : a ≤ bs.length) (hb : bs.length < 4611686018427387904) : FC Try.prog i_cartoucheref1_GetVarint [.slice (bs.map encB), .int .i64 (a : Int)] (· = encGV (gvAt bs a)) := by
  (refine .of F_cartoucheref1_GetVarint T_cartoucheref1_GetVarint L_cartoucheref1_GetVarint ?_; unfold A_cartoucheref1_GetVarint; simp only [args0, zl0, zl1, zl2, zl3])
  (refine wpc_seq ?_); (refine wpc_region fun Kr hKr => ?_; simp only [go_sem, ↓reduceIte, Nat.reduceEqDiff, Nat.reduceAdd, Nat.reduceSub, Nat.reduceLeDiff, Nat.reduceMul, reduceCtorEq, Nat.reduceBEq, Int.reduceLT, Int.reduceLE, Int.reduceNeg, Int.reduceEq]; with_reducible refine hKr _ ?_; clear hKr Kr)
  (refine wpc_seq ?_); (refine wpc_region fun Kr hKr => ?_; simp only [go_sem, ↓reduceIte, Nat.reduceEqDiff, Nat.reduceAdd, Nat.reduceSub, Nat.reduceLeDiff, Nat.reduceMul, reduceCtorEq, Nat.reduceBEq, Int.reduceLT, Int.reduceLE, Int.reduceNeg, Int.reduceEq]; with_reducible refine hKr _ ?_; clear hKr Kr)
  (refine wpc_seq ?_); (refine wpc_region fun Kr hKr => ?_; simp only [go_sem, ↓reduceIte, Nat.reduceEqDiff, Nat.reduceAdd, Nat.reduceSub, Nat.reduceLeDiff, Nat.reduceMul, reduceCtorEq, Nat.reduceBEq, Int.reduceLT, Int.reduceLE, Int.reduceNeg, Int.reduceEq]; with_reducible refine hKr _ ?_; clear hKr Kr)
  show wpc _ (.block 0 (.loop _)) _ _
  refine wpc_loop (fun m s => ∃ i n : Nat, m = 10 - i ∧ i ≤ 9 ∧ a + i ≤ bs.length ∧ n < 128 ^ i ∧ gvL (bs.drop a) 0 0 = gvL (bs.drop (a + i)) i n ∧ s.σ = [] ∧ lk s.ρ 0 = some (.iv (.slice (bs.map encB))) ∧ lk s.ρ 1 = some (.iv (.int .i64 (a : Int))) ∧
      lk s.ρ 7 = some (.iv (.int .u64 (n : Int))) ∧ lk s.ρ 8 = some (.iv (.int .i64 (i : Int)))) 10 ⟨0, 0, rfl, by omega, by omega, by simp, rfl, rfl, ?_, ?_, ?_, ?_⟩ ?_
  · simp only [go_sem, ↓reduceIte, Nat.reduceEqDiff, Nat.reduceAdd, Nat.reduceSub, Nat.reduceLeDiff, Nat.reduceMul, reduceCtorEq, Nat.reduceBEq, Int.reduceLT, Int.reduceLE, Int.reduceNeg, Int.reduceEq]
  · simp only [go_sem, ↓reduceIte, Nat.reduceEqDiff, Nat.reduceAdd, Nat.reduceSub, Nat.reduceLeDiff, Nat.reduceMul, reduceCtorEq, Nat.reduceBEq, Int.reduceLT, Int.reduceLE, Int.reduceNeg, Int.reduceEq]
  · simp only [go_sem, ↓reduceIte, Nat.reduceEqDiff, Nat.reduceAdd, Nat.reduceSub, Nat.reduceLeDiff, Nat.reduceMul, reduceCtorEq, Nat.reduceBEq, Int.reduceLT, Int.reduceLE, Int.reduceNeg, Int.reduceEq]
  · simp only [go_sem, ↓reduceIte, Nat.reduceEqDiff, Nat.reduceAdd, Nat.reduceSub, Nat.reduceLeDiff, Nat.reduceMul, reduceCtorEq, Nat.reduceBEq, Int.reduceLT, Int.reduceLE, Int.reduceNeg, Int.reduceEq]
  rintro m s ⟨i, n, rfl, hi, hai, hn, hg, hσ, h0, h1, h7, h8⟩ K hK
  obtain ⟨ρ, σ⟩ := s
  simp only at hσ h0 h1 h7 h8
  subst hσ
  have w1 : IntKind.i64.wrap ((a : Int) + i) = ((a + i : Nat) : Int) := by rw [wrap_i64 (by omega) (by omega)]; omega
  (refine wpc_seq ?_)
  show wpc _ (.seq _ _) _ _
  (refine wpc_seq ?_); (refine wpc_seq ?_); (refine wpc_region fun Kr hKr => ?_; simp only [go_sem, ↓reduceIte, Nat.reduceEqDiff, Nat.reduceAdd, Nat.reduceSub, Nat.reduceLeDiff, Nat.reduceMul, reduceCtorEq, Nat.reduceBEq, Int.reduceLT, Int.reduceLE, Int.reduceNeg, Int.reduceEq, h0, h1, h7, h8, w1]; with_reducible refine hKr _ ?_; clear hKr Kr)
  by_cases he : bs.length ≤ a + i
  · have he' : a + i = bs.length := by omega
    (refine wpc_true (by simp only [ev, lk, Nat.reduceEqDiff, ↓reduceIte, decide_true, decide_false, Bool.not_true, Bool.not_false, Bool.true_and, Bool.false_and, Bool.and_true, Bool.and_false, Bool.or_false, Bool.false_or, Bool.true_or, Bool.or_true, Bool.and_self, Bool.or_self, Int.cast_ofNat_Int, Int.natCast_inj, Int.ofNat_lt, Int.ofNat_le, Int.natCast_nonneg, eq_self, Int.reduceLT, Int.reduceLE, Int.reduceEq, Bool.false_eq_true, if_true, if_false, reduceCtorEq, and_self, and_true, true_and, and_false, false_and, he]) ?_)
    (refine wpc_seq ?_); (refine wpc_region fun Kr hKr => ?_; simp only [go_sem, ↓reduceIte, Nat.reduceEqDiff, Nat.reduceAdd, Nat.reduceSub, Nat.reduceLeDiff, Nat.reduceMul, reduceCtorEq, Nat.reduceBEq, Int.reduceLT, Int.reduceLE, Int.reduceNeg, Int.reduceEq]; with_reducible refine hKr _ ?_; clear hKr Kr)
    (refine endsV (x := _) (σ' := _) (by simp only [retOf, retVals, oneOrTup, callArgs, callArgsL, evAll, ev, lk, shutAll, shut, nrm, nrm0, nrm1, upd, ↓reduceIte, Nat.reduceEqDiff, List.map_nil, List.map_cons, eq_self, if_true, if_false, reduceCtorEq, and_self, ownRes]; rfl) ?_)
    have : gvL (bs.drop (a + i)) i n = (0, 0, 3) := by rw [he', List.drop_length]; rfl
    rw [gvAt_err (by omega) (hg.trans this)]; rfl
  · have hlt : a + i < bs.length := by omega
    have hx := List.getElem?_eq_getElem hlt
    obtain ⟨b, hbb⟩ : ∃ b, bs[a + i]? = some b := ⟨_, hx⟩
    have hm : (bs.map encB)[a + i]? = some (encB b) := by simp [hbb]
    have hgd := gvL_drop (i := i) (n := n) hbb
    have hbl := b.toNat_lt
    (refine wpc_false (by simp only [ev, lk, Nat.reduceEqDiff, ↓reduceIte, decide_true, decide_false, Bool.not_true, Bool.not_false, Bool.true_and, Bool.false_and, Bool.and_true, Bool.and_false, Bool.or_false, Bool.false_or, Bool.true_or, Bool.or_true, Bool.and_self, Bool.or_self, Int.cast_ofNat_Int, Int.natCast_inj, Int.ofNat_lt, Int.ofNat_le, Int.natCast_nonneg, eq_self, Int.reduceLT, Int.reduceLE, Int.reduceEq, Bool.false_eq_true, if_true, if_false, reduceCtorEq, and_self, and_true, true_and, and_false, false_and, he]) ?_)
    (refine wpc_skip' ?_)
    (refine wpc_seq ?_); (refine wpc_region fun Kr hKr => ?_; simp only [go_sem, ↓reduceIte, Nat.reduceEqDiff, Nat.reduceAdd, Nat.reduceSub, Nat.reduceLeDiff, Nat.reduceMul, reduceCtorEq, Nat.reduceBEq, Int.reduceLT, Int.reduceLE, Int.reduceNeg, Int.reduceEq, h0, h1, h7, h8, w1, hm, encB]; with_reducible refine hKr _ ?_; clear hKr Kr)
    (refine wpc_seq ?_); (refine wpc_seq ?_)
    have ec : (1 < (b.toNat : Int)) ↔ (1 < b.toNat) := by omega
    have ec128 : ((b.toNat : Int) < 128) ↔ (b.toNat < 128) := by omega
    have e127 : Int.tmod (b.toNat : Int) 128 = ((b.toNat % 128 : Nat) : Int) := by rw [IntWalk.rem_in _ _ (by omega)]; omega
    have wc : IntKind.u64.wrap ((b.toNat % 128 : Nat) : Int) = ((b.toNat % 128 : Nat) : Int) := wrap_u64 (by omega) (by omega)
    have wm : IntKind.u64.wrap (IntKind.i64.wrap (7 * (i : Int))) = 7 * (i : Int) := shl7 (n := 0) (c := 0) hi
    have hsh : ¬ (7 * (i : Int) < 0) := by omega
    have ei : ((i : Int) = 9) ↔ i = 9 := by omega
    (refine wpc_regionI fun Kr hKr => ?_; simp only [go_sem, ↓reduceIte, Nat.reduceEqDiff, Nat.reduceAdd, Nat.reduceSub, Nat.reduceLeDiff, Nat.reduceMul, reduceCtorEq, Nat.reduceBEq, Int.reduceLT, Int.reduceLE, Int.reduceNeg, Int.reduceEq, h0, h1, h7, h8, encB]; with_reducible refine hKr _ ?_; clear hKr Kr)
    by_cases hbad : i = 9 ∧ 1 < b.toNat
    · obtain ⟨h9, hb1⟩ := hbad
      have e9 : ((i : Int) = 9) := by omega
      (refine wpc_true (by simp only [ev, lk, Nat.reduceEqDiff, ↓reduceIte, decide_true, decide_false, Bool.not_true, Bool.not_false, Bool.true_and, Bool.false_and, Bool.and_true, Bool.and_false, Bool.or_false, Bool.false_or, Bool.true_or, Bool.or_true, Bool.and_self, Bool.or_self, Int.cast_ofNat_Int, Int.natCast_inj, Int.ofNat_lt, Int.ofNat_le, Int.natCast_nonneg, eq_self, Int.reduceLT, Int.reduceLE, Int.reduceEq, Bool.false_eq_true, if_true, if_false, reduceCtorEq, and_self, and_true, true_and, and_false, false_and, ec, e9, hb1]) ?_)
      (refine wpc_seq ?_); (refine wpc_region fun Kr hKr => ?_; simp only [go_sem, ↓reduceIte, Nat.reduceEqDiff, Nat.reduceAdd, Nat.reduceSub, Nat.reduceLeDiff, Nat.reduceMul, reduceCtorEq, Nat.reduceBEq, Int.reduceLT, Int.reduceLE, Int.reduceNeg, Int.reduceEq]; with_reducible refine hKr _ ?_; clear hKr Kr)
      (refine endsV (x := _) (σ' := _) (by simp only [retOf, retVals, oneOrTup, callArgs, callArgsL, evAll, ev, lk, shutAll, shut, nrm, nrm0, nrm1, upd, ↓reduceIte, Nat.reduceEqDiff, List.map_nil, List.map_cons, eq_self, if_true, if_false, reduceCtorEq, and_self, ownRes]; rfl) ?_)
      rw [gvAt_err (by omega) (hg.trans (hgd.trans (if_pos ⟨h9, hb1⟩)))]; rfl
    · rw [if_neg hbad] at hgd
      have hd := digit_or (n := n) (c := b.toNat % 128) hi hn (Nat.mod_lt _ (by omega)) (by omega)
      have hd' : bitOp .or .u64 (n : Int) (IntKind.u64.wrap (((b.toNat % 128 : Nat) : Int) * 2 ^ (min ((7 * (i : Int)).toNat) IntKind.u64.bits))) = ((n + b.toNat % 128 * 128 ^ i : Nat) : Int) := hd
      have hbad' : (decide (i = 9) && decide (1 < b.toNat)) = false := by simpa using hbad
      (refine wpc_false (by simp only [ev, lk, Nat.reduceEqDiff, ↓reduceIte, decide_true, decide_false, Bool.not_true, Bool.not_false, Bool.true_and, Bool.false_and, Bool.and_true, Bool.and_false, Bool.or_false, Bool.false_or, Bool.true_or, Bool.or_true, Bool.and_self, Bool.or_self, Int.cast_ofNat_Int, Int.natCast_inj, Int.ofNat_lt, Int.ofNat_le, Int.natCast_nonneg, eq_self, Int.reduceLT, Int.reduceLE, Int.reduceEq, Bool.false_eq_true, if_true, if_false, reduceCtorEq, and_self, and_true, true_and, and_false, false_and, ec, ei, hbad']) ?_)
      (refine wpc_skip' ?_)
      (refine wpc_seq ?_); (refine wpc_region fun Kr hKr => ?_; simp only [go_sem, ↓reduceIte, Nat.reduceEqDiff, Nat.reduceAdd, Nat.reduceSub, Nat.reduceLeDiff, Nat.reduceMul, reduceCtorEq, Nat.reduceBEq, Int.reduceLT, Int.reduceLE, Int.reduceNeg, Int.reduceEq, h0, h1, h7, h8, encB, shfOp, e127, wc, wm, hsh, hd']; with_reducible refine hKr _ ?_; clear hKr Kr)
      (refine wpc_seq ?_); (refine wpc_region fun Kr hKr => ?_; simp only [go_sem, ↓reduceIte, Nat.reduceEqDiff, Nat.reduceAdd, Nat.reduceSub, Nat.reduceLeDiff, Nat.reduceMul, reduceCtorEq, Nat.reduceBEq, Int.reduceLT, Int.reduceLE, Int.reduceNeg, Int.reduceEq, encB]; with_reducible refine hKr _ ?_; clear hKr Kr)
      by_cases hlast : b.toNat < 128
      · rw [if_pos hlast] at hgd
        have w2 : IntKind.i64.wrap (((a + i : Nat) : Int) + 1) = ((a + (i + 1) : Nat) : Int) := by rw [wrap_i64 (by omega) (by omega)]; omega
        (refine wpc_true (by simp only [ev, lk, Nat.reduceEqDiff, ↓reduceIte, decide_true, decide_false, Bool.not_true, Bool.not_false, Bool.true_and, Bool.false_and, Bool.and_true, Bool.and_false, Bool.or_false, Bool.false_or, Bool.true_or, Bool.or_true, Bool.and_self, Bool.or_self, Int.cast_ofNat_Int, Int.natCast_inj, Int.ofNat_lt, Int.ofNat_le, Int.natCast_nonneg, eq_self, Int.reduceLT, Int.reduceLE, Int.reduceEq, Bool.false_eq_true, if_true, if_false, reduceCtorEq, and_self, and_true, true_and, and_false, false_and, ec128, hlast]) ?_)
        (refine wpc_seq ?_); (refine wpc_region fun Kr hKr => ?_; simp only [go_sem, ↓reduceIte, Nat.reduceEqDiff, Nat.reduceAdd, Nat.reduceSub, Nat.reduceLeDiff, Nat.reduceMul, reduceCtorEq, Nat.reduceBEq, Int.reduceLT, Int.reduceLE, Int.reduceNeg, Int.reduceEq, h0, h1, h7, h8, w1, w2]; with_reducible refine hKr _ ?_; clear hKr Kr)
        (refine endsV (x := _) (σ' := _) (by simp only [retOf, retVals, oneOrTup, callArgs, callArgsL, evAll, ev, lk, shutAll, shut, nrm, nrm0, nrm1, upd, ↓reduceIte, Nat.reduceEqDiff, List.map_nil, List.map_cons, eq_self, if_true, if_false, reduceCtorEq, and_self, ownRes]; rfl) ?_)
        rw [gvAt_ok (by omega) (hg.trans hgd)]; rfl
      · rw [if_neg hlast] at hgd
        (refine wpc_false (by simp only [ev, lk, Nat.reduceEqDiff, ↓reduceIte, decide_true, decide_false, Bool.not_true, Bool.not_false, Bool.true_and, Bool.false_and, Bool.and_true, Bool.and_false, Bool.or_false, Bool.false_or, Bool.true_or, Bool.or_true, Bool.and_self, Bool.or_self, Int.cast_ofNat_Int, Int.natCast_inj, Int.ofNat_lt, Int.ofNat_le, Int.natCast_nonneg, eq_self, Int.reduceLT, Int.reduceLE, Int.reduceEq, Bool.false_eq_true, if_true, if_false, reduceCtorEq, and_self, and_true, true_and, and_false, false_and, ec128, hlast]) ?_)
        (refine wpc_skip' ?_)
        have w3 : IntKind.i64.wrap ((i : Int) + 1) = ((i + 1 : Nat) : Int) := by rw [wrap_i64 (by omega) (by omega)]; omega
        (refine wpc_region fun Kr hKr => ?_; simp only [go_sem, ↓reduceIte, Nat.reduceEqDiff, Nat.reduceAdd, Nat.reduceSub, Nat.reduceLeDiff, Nat.reduceMul, reduceCtorEq, Nat.reduceBEq, Int.reduceLT, Int.reduceLE, Int.reduceNeg, Int.reduceEq, h8, w3]; with_reducible refine hKr _ ?_; clear hKr Kr)
        have hi9 : i ≠ 9 := by intro h; omega
        refine hK _ (10 - (i + 1)) (by omega) ⟨i + 1, _, rfl, by omega, by omega, ?_, hg.trans hgd, rfl, ?_, ?_, ?_, ?_⟩
        · have h1 : b.toNat % 128 < 128 := Nat.mod_lt _ (by omega)
          have h2 : b.toNat % 128 * 128 ^ i ≤ 127 * 128 ^ i := Nat.mul_le_mul_right _ (by omega)
          rw [Nat.pow_succ]; omega
        · simp only [go_sem, ↓reduceIte, Nat.reduceEqDiff, Nat.reduceAdd, Nat.reduceSub, Nat.reduceLeDiff, Nat.reduceMul, reduceCtorEq, Nat.reduceBEq, Int.reduceLT, Int.reduceLE, Int.reduceNeg, Int.reduceEq, h0]
        · simp only [go_sem, ↓reduceIte, Nat.reduceEqDiff, Nat.reduceAdd, Nat.reduceSub, Nat.reduceLeDiff, Nat.reduceMul, reduceCtorEq, Nat.reduceBEq, Int.reduceLT, Int.reduceLE, Int.reduceNeg, Int.reduceEq, h1]
        · simp only [go_sem, ↓reduceIte, Nat.reduceEqDiff, Nat.reduceAdd, Nat.reduceSub, Nat.reduceLeDiff, Nat.reduceMul, reduceCtorEq, Nat.reduceBEq, Int.reduceLT, Int.reduceLE, Int.reduceNeg, Int.reduceEq]
        · simp only [go_sem, ↓reduceIte, Nat.reduceEqDiff, Nat.reduceAdd, Nat.reduceSub, Nat.reduceLeDiff, Nat.reduceMul, reduceCtorEq, Nat.reduceBEq, Int.reduceLT, Int.reduceLE, Int.reduceNeg, Int.reduceEq]
theorem wf_u64 {b : Int} (h : (Lit.int .u64 b).wf = true) : ∃ n : Nat, b = (n : Int) ∧ n < 18446744073709551616 := by
  have h' : 0 ≤ b ∧ b ≤ 18446744073709551615 := by simpa [Lit.wf, IntKind.min, IntKind.max, IntKind.signed, IntKind.bits] using h
  exact ⟨b.toNat, by omega, by omega⟩
theorem wf_i64 {b : Int} (h : (Lit.int .i64 b).wf = true) : -9223372036854775808 ≤ b ∧ b < 9223372036854775808 := by
  have h' : -9223372036854775808 ≤ b ∧ b ≤ 9223372036854775807 := by simpa [Lit.wf, IntKind.min, IntKind.max, IntKind.signed, IntKind.bits] using h
  omega
theorem gvL_lt : ∀ (bs : List UInt8) (i n : Nat), i ≤ 9 → n < 128 ^ i → (gvL bs i n).1 < 18446744073709551616
  | [], i, n, hi, hn => by simp [gvL]
  | b :: r, i, n, hi, hn => by
    have hp := pow_small hi
    unfold gvL
    split
    · simp
    · rename_i hb
      have hm : b.toNat % 128 * 128 ^ i ≤ 127 * 128 ^ i := Nat.mul_le_mul_right _ (by omega)
      split
      · rename_i hl
        by_cases h9 : i = 9
        · subst h9
          have : b.toNat ≤ 1 := by omega
          have e : (128 : Nat) ^ 9 = 9223372036854775808 := by decide
          rw [e] at *
          have : b.toNat % 128 ≤ 1 := by omega
          have : b.toNat % 128 * 9223372036854775808 ≤ 1 * 9223372036854775808 := Nat.mul_le_mul_right _ this
          show n + b.toNat % 128 * 9223372036854775808 < _
          omega
        · have h8 : 128 ^ i ≤ 128 ^ 8 := Nat.pow_le_pow_right (by omega) (by omega)
          have e : (128 : Nat) ^ 8 = 72057594037927936 := by decide
          rw [e] at h8
          show n + b.toNat % 128 * 128 ^ i < _
          omega
      · rename_i hl
        have : i ≠ 9 := by intro h; apply hb; exact ⟨h, by omega⟩
        exact gvL_lt r (i + 1) _ (by omega) (by rw [Nat.pow_succ]; omega)
theorem gvL_next : ∀ (bs : List UInt8) (i n m k : Nat), gvL bs i n = (m, k, 0) → i < k ∧ k ≤ i + bs.length
  | [], i, n, m, k, h => by simp [gvL] at h
  | b :: r, i, n, m, k, h => by
    unfold gvL at h
    split at h
    · simp at h
    · split at h
      · simp at h
        simp; omega
      · have := gvL_next r (i + 1) _ m k h
        simp; omega
theorem gvAt_lt (bs : List UInt8) (k : Int) : (gvAt bs k).1 < 18446744073709551616 := by
  unfold gvAt
  split
  · split
    · rename_i n k' h
      have := gvL_lt (bs.drop k.toNat) 0 0 (by omega) (by simp)
      rw [h] at this
      exact this
    · simp
  · simp
theorem gvAt_next {bs : List UInt8} {k : Int} {n p : Nat} (h : gvAt bs k = (n, p, 0)) : 0 ≤ k ∧ k < p ∧ p ≤ bs.length := by
  unfold gvAt at h
  split at h
  · rename_i hk
    split at h
    · rename_i m j hg
      have := gvL_next _ _ _ _ _ hg
      simp at h
      simp at this
      omega
    · rename_i m j e he hg
      simp at h
      exact (he h.2.2).elim
  · simp at h
theorem gvAt_zero {bs : List UInt8} {k : Int} {n p e : Nat} (h : gvAt bs k = (n, p, e + 1)) : n = 0 ∧ p = 0 := by
  unfold gvAt at h
  split at h
  · split at h
    · simp at h
    · simp at h; omega
  · simp at h; omega

def wdL (n : Nat) : Nat → List UInt8
  | 0 => []
  | s + 1 => wdL n s ++ [UInt8.ofNat (n / 256 ^ s % 256)]
def leN : List UInt8 → Nat
  | [] => 0
  | b :: r => b.toNat + 256 * leN r
theorem leN_append : ∀ (l : List UInt8) (b : UInt8), leN (l ++ [b]) = leN l + b.toNat * 256 ^ l.length
  | [], b => by simp [leN]
  | a :: l, b => by
    simp only [List.cons_append, leN, leN_append l b, List.length_cons, Nat.pow_succ, Nat.mul_add, Nat.add_assoc]
    congr 2
    rw [Nat.mul_comm 256, Nat.mul_assoc]
theorem leN_lt : ∀ l : List UInt8, leN l < 256 ^ l.length
  | [] => by simp [leN]
  | b :: r => by
    have := leN_lt r
    have hb := b.toNat_lt
    simp only [leN, List.length_cons, Nat.pow_succ]
    omega
theorem wdL_len (n : Nat) : ∀ s, (wdL n s).length = s
  | 0 => rfl
  | s + 1 => by simp [wdL, wdL_len n s]
theorem wdL_mod (n : Nat) : ∀ s, s ≤ 4 → wdL (n % 4294967296) s = wdL n s
  | 0, _ => rfl
  | s + 1, h => by
    simp only [wdL, wdL_mod n s (by omega)]
    congr 3
    have : s = 0 ∨ s = 1 ∨ s = 2 ∨ s = 3 := by omega
    rcases this with rfl | rfl | rfl | rfl <;> simp <;> omega

theorem shr8 (m i : Nat) (hi : i ≤ 7) : Int.fdiv (m : Int) (2 ^ (min ((8 * (i : Int)).toNat) IntKind.u64.bits)) = ((m / 256 ^ i : Nat) : Int) := by
  have e1 : (8 * (i : Int)).toNat = 8 * i := by omega
  have e2 : min (8 * i) IntKind.u64.bits = 8 * i := by rw [u64_bits]; omega
  have e3 : ((2 : Int) ^ (8 * i)) = ((256 ^ i : Nat) : Int) := by
    rw [Int.natCast_pow, Int.pow_mul]; rfl
  rw [e1, e2, e3, Int.fdiv_eq_ediv_of_nonneg _ (Int.natCast_nonneg _)]
  exact (Int.natCast_ediv _ _).symm

theorem word_fc (n : Nat) (hn : n < 18446744073709551616) (s : Nat) (hs : s ≤ 8) : FC Try.prog i_wire_word [.int .u64 (n : Int), .int .i64 (s : Int)] (· = .slice ((wdL n s).map encB)) := by
  (refine .of F_wire_word T_wire_word L_wire_word ?_; unfold A_wire_word; simp only [args0, zl0, zl1, zl2, zl3])
  (refine wpc_seq ?_); (refine wpc_region fun Kr hKr => ?_; simp only [go_sem, ↓reduceIte, Nat.reduceEqDiff, Nat.reduceAdd, Nat.reduceSub, Nat.reduceLeDiff, Nat.reduceMul, reduceCtorEq, Nat.reduceBEq, Int.reduceLT, Int.reduceLE, Int.reduceNeg, Int.reduceEq]; with_reducible refine hKr _ ?_; clear hKr Kr)
  have g0 : (0 : Int) ≤ (s : Int) := by omega
  have g1 : (s : Int) ≤ 140737488355328 := by omega
  (refine wpc_seq ?_); (refine wpc_region fun Kr hKr => ?_; simp only [go_sem, ↓reduceIte, Nat.reduceEqDiff, Nat.reduceAdd, Nat.reduceSub, Nat.reduceLeDiff, Nat.reduceMul, reduceCtorEq, Nat.reduceBEq, Int.reduceLT, Int.reduceLE, Int.reduceNeg, Int.reduceEq, g0, g1]; with_reducible refine hKr _ ?_; clear hKr Kr)
  (refine wpc_seq ?_); (refine wpc_seq ?_); (refine wpc_region fun Kr hKr => ?_; simp only [go_sem, ↓reduceIte, Nat.reduceEqDiff, Nat.reduceAdd, Nat.reduceSub, Nat.reduceLeDiff, Nat.reduceMul, reduceCtorEq, Nat.reduceBEq, Int.reduceLT, Int.reduceLE, Int.reduceNeg, Int.reduceEq]; with_reducible refine hKr _ ?_; clear hKr Kr)
  show wpc _ (.block 0 (.loop _)) _ _
  refine wpc_loop (fun m st => ∃ (i v : Nat), m = s - i ∧ i ≤ s ∧ st.σ = [(0, v, .list 5 1 ((wdL n i).map encB))] ∧ lk st.ρ 0 = some (.iv (.int .u64 (n : Int))) ∧ lk st.ρ 5 = some (.lst 0 v) ∧ lk st.ρ 9 = some (.iv (.int .i64 (s : Int))) ∧ lk st.ρ 10 = some (.iv (.int .i64 (i : Int)))) s
    ⟨0, 0, rfl, by omega, rfl, ?_, ?_, ?_, ?_⟩ ?_
  · simp only [go_sem, ↓reduceIte, Nat.reduceEqDiff, Nat.reduceAdd, Nat.reduceSub, Nat.reduceLeDiff, Nat.reduceMul, reduceCtorEq, Nat.reduceBEq, Int.reduceLT, Int.reduceLE, Int.reduceNeg, Int.reduceEq]
  · simp only [go_sem, ↓reduceIte, Nat.reduceEqDiff, Nat.reduceAdd, Nat.reduceSub, Nat.reduceLeDiff, Nat.reduceMul, reduceCtorEq, Nat.reduceBEq, Int.reduceLT, Int.reduceLE, Int.reduceNeg, Int.reduceEq]
  · simp only [go_sem, ↓reduceIte, Nat.reduceEqDiff, Nat.reduceAdd, Nat.reduceSub, Nat.reduceLeDiff, Nat.reduceMul, reduceCtorEq, Nat.reduceBEq, Int.reduceLT, Int.reduceLE, Int.reduceNeg, Int.reduceEq]
  · simp only [go_sem, ↓reduceIte, Nat.reduceEqDiff, Nat.reduceAdd, Nat.reduceSub, Nat.reduceLeDiff, Nat.reduceMul, reduceCtorEq, Nat.reduceBEq, Int.reduceLT, Int.reduceLE, Int.reduceNeg, Int.reduceEq]
  rintro m st ⟨i, v, rfl, hi, hσ, h0, h5, h9, h10⟩ K hK
  obtain ⟨ρ, σ⟩ := st
  simp only at hσ h0 h5 h9 h10
  subst hσ
  (refine wpc_seq ?_); (refine wpc_region fun Kr hKr => ?_; simp only [go_sem, ↓reduceIte, Nat.reduceEqDiff, Nat.reduceAdd, Nat.reduceSub, Nat.reduceLeDiff, Nat.reduceMul, reduceCtorEq, Nat.reduceBEq, Int.reduceLT, Int.reduceLE, Int.reduceNeg, Int.reduceEq, h9, h10]; with_reducible refine hKr _ ?_; clear hKr Kr)
  (refine wpc_seq ?_)
  by_cases hlt : i < s
  · (refine wpc_true (by simp only [ev, lk, Nat.reduceEqDiff, ↓reduceIte, decide_true, decide_false, Bool.not_true, Bool.not_false, Bool.true_and, Bool.false_and, Bool.and_true, Bool.and_false, Bool.or_false, Bool.false_or, Bool.true_or, Bool.or_true, Bool.and_self, Bool.or_self, Int.cast_ofNat_Int, Int.natCast_inj, Int.ofNat_lt, Int.ofNat_le, Int.natCast_nonneg, eq_self, Int.reduceLT, Int.reduceLE, Int.reduceEq, Bool.false_eq_true, if_true, if_false, reduceCtorEq, and_self, and_true, true_and, and_false, false_and, hlt]) ?_)
    (refine wpc_skip' ?_)
    (refine wpc_seq ?_)
    show wpc _ (.seq _ _) _ _
    (refine wpc_seq ?_); (refine wpc_region fun Kr hKr => ?_; simp only [go_sem, ↓reduceIte, Nat.reduceEqDiff, Nat.reduceAdd, Nat.reduceSub, Nat.reduceLeDiff, Nat.reduceMul, reduceCtorEq, Nat.reduceBEq, Int.reduceLT, Int.reduceLE, Int.reduceNeg, Int.reduceEq, h10]; with_reducible refine hKr _ ?_; clear hKr Kr)
    have hw : IntKind.i64.wrap (8 * (i : Int)) = 8 * (i : Int) := wrap_i64 (by omega) (by omega)
    have g : ¬ (8 * (i : Int) < 0) := by omega
    have hsh := shr8 n i (by omega)
    have hu := u8_mod (n / 256 ^ i)
    have hlen : (wdL n i).length + 1 ≤ 140737488355328 := by rw [wdL_len]; omega
    (refine wpc_region fun Kr hKr => ?_; simp only [go_sem, ↓reduceIte, Nat.reduceEqDiff, Nat.reduceAdd, Nat.reduceSub, Nat.reduceLeDiff, Nat.reduceMul, reduceCtorEq, Nat.reduceBEq, Int.reduceLT, Int.reduceLE, Int.reduceNeg, Int.reduceEq, h0, h5, h9, h10, hw, g, shfOp, hsh, hu, hlen]; with_reducible refine hKr _ ?_; clear hKr Kr)
    have hw1 : IntKind.i64.wrap ((i : Int) + 1) = ((i + 1 : Nat) : Int) := by rw [wrap_i64 (by omega) (by omega)]; omega
    (refine wpc_region fun Kr hKr => ?_; simp only [go_sem, ↓reduceIte, Nat.reduceEqDiff, Nat.reduceAdd, Nat.reduceSub, Nat.reduceLeDiff, Nat.reduceMul, reduceCtorEq, Nat.reduceBEq, Int.reduceLT, Int.reduceLE, Int.reduceNeg, Int.reduceEq, h10, hw1]; with_reducible refine hKr _ ?_; clear hKr Kr)
    refine hK _ (s - (i + 1)) (by omega) ⟨i + 1, v + 1, rfl, by omega, ?_, ?_, ?_, ?_, ?_⟩
    · simp only [wdL, List.map_append, List.map_cons, List.map_nil, encB_ofNat (show n / 256 ^ i % 256 < 256 by omega)]
    · simp only [go_sem, ↓reduceIte, Nat.reduceEqDiff, Nat.reduceAdd, Nat.reduceSub, Nat.reduceLeDiff, Nat.reduceMul, reduceCtorEq, Nat.reduceBEq, Int.reduceLT, Int.reduceLE, Int.reduceNeg, Int.reduceEq, h0]
    · simp only [go_sem, ↓reduceIte, Nat.reduceEqDiff, Nat.reduceAdd, Nat.reduceSub, Nat.reduceLeDiff, Nat.reduceMul, reduceCtorEq, Nat.reduceBEq, Int.reduceLT, Int.reduceLE, Int.reduceNeg, Int.reduceEq]
    · simp only [go_sem, ↓reduceIte, Nat.reduceEqDiff, Nat.reduceAdd, Nat.reduceSub, Nat.reduceLeDiff, Nat.reduceMul, reduceCtorEq, Nat.reduceBEq, Int.reduceLT, Int.reduceLE, Int.reduceNeg, Int.reduceEq, h9]
    · simp only [go_sem, ↓reduceIte, Nat.reduceEqDiff, Nat.reduceAdd, Nat.reduceSub, Nat.reduceLeDiff, Nat.reduceMul, reduceCtorEq, Nat.reduceBEq, Int.reduceLT, Int.reduceLE, Int.reduceNeg, Int.reduceEq]
  · have : i = s := by omega
    subst this
    (refine wpc_false (by simp only [ev, lk, Nat.reduceEqDiff, ↓reduceIte, decide_true, decide_false, Bool.not_true, Bool.not_false, Bool.true_and, Bool.false_and, Bool.and_true, Bool.and_false, Bool.or_false, Bool.false_or, Bool.true_or, Bool.or_true, Bool.and_self, Bool.or_self, Int.cast_ofNat_Int, Int.natCast_inj, Int.ofNat_lt, Int.ofNat_le, Int.natCast_nonneg, eq_self, Int.reduceLT, Int.reduceLE, Int.reduceEq, Bool.false_eq_true, if_true, if_false, reduceCtorEq, and_self, and_true, true_and, and_false, false_and, hlt]) ?_)
    show wpc _ (.seq _ _) _ _
    (refine wpc_seq ?_); (refine wpc_region fun Kr hKr => ?_; simp only [go_sem, ↓reduceIte, Nat.reduceEqDiff, Nat.reduceAdd, Nat.reduceSub, Nat.reduceLeDiff, Nat.reduceMul, reduceCtorEq, Nat.reduceBEq, Int.reduceLT, Int.reduceLE, Int.reduceNeg, Int.reduceEq, h5]; with_reducible refine hKr _ ?_; clear hKr Kr)
    (refine endsV (x := _) (σ' := _) (by simp only [retOf, retVals, oneOrTup, callArgs, callArgsL, evAll, ev, lk, shutAll, shut, nrm, nrm0, nrm1, upd, ↓reduceIte, Nat.reduceEqDiff, List.map_nil, List.map_cons, eq_self, if_true, if_false, reduceCtorEq, and_self, ownRes]; rfl) ?_)
    rfl

theorem putFix32_fc (n : Nat) (hn : n < 4294967296) : FC Try.prog i_wire_PutFix32 [.int .u32 (n : Int)] (· = .slice ((wdL n 4).map encB)) := by
  (refine .of F_wire_PutFix32 T_wire_PutFix32 L_wire_PutFix32 ?_; unfold A_wire_PutFix32; simp only [args0, zl0, zl1, zl2, zl3])
  (refine wpc_seq ?_); (refine wpc_region fun Kr hKr => ?_; simp only [go_sem, ↓reduceIte, Nat.reduceEqDiff, Nat.reduceAdd, Nat.reduceSub, Nat.reduceLeDiff, Nat.reduceMul, reduceCtorEq, Nat.reduceBEq, Int.reduceLT, Int.reduceLE, Int.reduceNeg, Int.reduceEq]; with_reducible refine hKr _ ?_; clear hKr Kr)
  have hw : IntKind.u64.wrap (n : Int) = (n : Int) := wrap_u64 (by omega) (by omega)
  (refine wpc_seq ?_); (refine wpc_region fun Kr hKr => ?_; simp only [go_sem, ↓reduceIte, Nat.reduceEqDiff, Nat.reduceAdd, Nat.reduceSub, Nat.reduceLeDiff, Nat.reduceMul, reduceCtorEq, Nat.reduceBEq, Int.reduceLT, Int.reduceLE, Int.reduceNeg, Int.reduceEq, hw])
  (refine wpr_callE (word_fc n (by omega) 4 (by omega)) (σ' := _) (by simp only [callArgs, callArgsL, evAll, ev, lk, shutAll, shut, nrm, nrm0, nrm1, upd, ↓reduceIte, Nat.reduceEqDiff, List.map_nil, List.map_cons, eq_self, if_true, if_false, reduceCtorEq, and_self, ownRes]; rfl) ?_; simp only [go_sem, ↓reduceIte, Nat.reduceEqDiff, Nat.reduceAdd, Nat.reduceSub, Nat.reduceLeDiff, Nat.reduceMul, reduceCtorEq, Nat.reduceBEq, Int.reduceLT, Int.reduceLE, Int.reduceNeg, Int.reduceEq])
  (with_reducible refine hKr _ ?_; clear hKr Kr)
  (refine endsV (x := _) (σ' := _) (by simp only [retOf, retVals, oneOrTup, callArgs, callArgsL, evAll, ev, lk, shutAll, shut, nrm, nrm0, nrm1, upd, ↓reduceIte, Nat.reduceEqDiff, List.map_nil, List.map_cons, eq_self, if_true, if_false, reduceCtorEq, and_self, ownRes]; rfl) ?_)
  rfl
theorem ref_putWord_fc (n : Nat) (hn : n < 18446744073709551616) (s : Nat) (hs : s ≤ 8) (hp : 0 < s) : FC Try.prog i_cartoucheref1_PutWord [.int .u64 (n : Int), .int .i64 (s : Int)] (· = .slice ((wdL n s).map encB)) := by
  (refine .of F_cartoucheref1_PutWord T_cartoucheref1_PutWord L_cartoucheref1_PutWord ?_; unfold A_cartoucheref1_PutWord; simp only [args0, zl0, zl1, zl2, zl3])
  (refine wpc_seq ?_); (refine wpc_region fun Kr hKr => ?_; simp only [go_sem, ↓reduceIte, Nat.reduceEqDiff, Nat.reduceAdd, Nat.reduceSub, Nat.reduceLeDiff, Nat.reduceMul, reduceCtorEq, Nat.reduceBEq, Int.reduceLT, Int.reduceLE, Int.reduceNeg, Int.reduceEq]; with_reducible refine hKr _ ?_; clear hKr Kr)
  (refine wpc_seq ?_); (refine wpc_region fun Kr hKr => ?_; simp only [go_sem, ↓reduceIte, Nat.reduceEqDiff, Nat.reduceAdd, Nat.reduceSub, Nat.reduceLeDiff, Nat.reduceMul, reduceCtorEq, Nat.reduceBEq, Int.reduceLT, Int.reduceLE, Int.reduceNeg, Int.reduceEq]; with_reducible refine hKr _ ?_; clear hKr Kr)
  (refine wpc_seq ?_); (refine wpc_seq ?_); (refine wpc_region fun Kr hKr => ?_; simp only [go_sem, ↓reduceIte, Nat.reduceEqDiff, Nat.reduceAdd, Nat.reduceSub, Nat.reduceLeDiff, Nat.reduceMul, reduceCtorEq, Nat.reduceBEq, Int.reduceLT, Int.reduceLE, Int.reduceNeg, Int.reduceEq]; with_reducible refine hKr _ ?_; clear hKr Kr)
  show wpc _ (.block 0 (.loop _)) _ _
  refine wpc_loop (fun m st => ∃ (i : Nat), m = s - i ∧ i ≤ s ∧ ((i = 0 ∧ st.σ = [] ∧ lk st.ρ 5 = some (.iv .nil)) ∨ ∃ v, st.σ = [(0, v, .list 5 1 ((wdL n i).map encB))] ∧ lk st.ρ 5 = some (.lst 0 v)) ∧ lk st.ρ 0 = some (.iv (.int .u64 (n : Int))) ∧ lk st.ρ 1 = some (.iv (.int .i64 (s : Int))) ∧ lk st.ρ 6 = some (.iv (.int .i64 (i : Int)))) s
    ⟨0, rfl, by omega, .inl ⟨rfl, rfl, ?_⟩, ?_, ?_, ?_⟩ ?_
  · simp only [go_sem, ↓reduceIte, Nat.reduceEqDiff, Nat.reduceAdd, Nat.reduceSub, Nat.reduceLeDiff, Nat.reduceMul, reduceCtorEq, Nat.reduceBEq, Int.reduceLT, Int.reduceLE, Int.reduceNeg, Int.reduceEq]
  · simp only [go_sem, ↓reduceIte, Nat.reduceEqDiff, Nat.reduceAdd, Nat.reduceSub, Nat.reduceLeDiff, Nat.reduceMul, reduceCtorEq, Nat.reduceBEq, Int.reduceLT, Int.reduceLE, Int.reduceNeg, Int.reduceEq]
  · simp only [go_sem, ↓reduceIte, Nat.reduceEqDiff, Nat.reduceAdd, Nat.reduceSub, Nat.reduceLeDiff, Nat.reduceMul, reduceCtorEq, Nat.reduceBEq, Int.reduceLT, Int.reduceLE, Int.reduceNeg, Int.reduceEq]
  · simp only [go_sem, ↓reduceIte, Nat.reduceEqDiff, Nat.reduceAdd, Nat.reduceSub, Nat.reduceLeDiff, Nat.reduceMul, reduceCtorEq, Nat.reduceBEq, Int.reduceLT, Int.reduceLE, Int.reduceNeg, Int.reduceEq]
  rintro m st ⟨i, rfl, hi, hsl, h0, h1, h6⟩ K hK
  obtain ⟨ρ, σ⟩ := st
  simp only at hsl h0 h1 h6
  (refine wpc_seq ?_); (refine wpc_seq ?_); (refine wpc_region fun Kr hKr => ?_; simp only [go_sem, ↓reduceIte, Nat.reduceEqDiff, Nat.reduceAdd, Nat.reduceSub, Nat.reduceLeDiff, Nat.reduceMul, reduceCtorEq, Nat.reduceBEq, Int.reduceLT, Int.reduceLE, Int.reduceNeg, Int.reduceEq, h1, h6]; with_reducible refine hKr _ ?_; clear hKr Kr)
  by_cases hlt : i < s
  · (refine wpc_true (by simp only [ev, lk, Nat.reduceEqDiff, ↓reduceIte, decide_true, decide_false, Bool.not_true, Bool.not_false, Bool.true_and, Bool.false_and, Bool.and_true, Bool.and_false, Bool.or_false, Bool.false_or, Bool.true_or, Bool.or_true, Bool.and_self, Bool.or_self, Int.cast_ofNat_Int, Int.natCast_inj, Int.ofNat_lt, Int.ofNat_le, Int.natCast_nonneg, eq_self, Int.reduceLT, Int.reduceLE, Int.reduceEq, Bool.false_eq_true, if_true, if_false, reduceCtorEq, and_self, and_true, true_and, and_false, false_and, hlt]) ?_)
    (refine wpc_skip' ?_)
    (refine wpc_seq ?_)
    have hw : IntKind.i64.wrap (8 * (i : Int)) = 8 * (i : Int) := wrap_i64 (by omega) (by omega)
    have hwu : IntKind.u64.wrap (8 * (i : Int)) = 8 * (i : Int) := wrap_u64 (by omega) (by omega)
    have g : ¬ (8 * (i : Int) < 0) := by omega
    have hsh := shr8 n i (by omega)
    have hu := u8_mod (n / 256 ^ i)
    have hlen : (wdL n i).length + 1 ≤ 140737488355328 := by rw [wdL_len]; omega
    have hw1 : IntKind.i64.wrap ((i : Int) + 1) = ((i + 1 : Nat) : Int) := by rw [wrap_i64 (by omega) (by omega)]; omega
    have fin : ∀ v ρ', lk ρ' 5 = some (.lst 0 v) → lk ρ' 0 = some (.iv (.int .u64 (n : Int))) → lk ρ' 1 = some (.iv (.int .i64 (s : Int))) → lk ρ' 6 = some (.iv (.int .i64 ((i + 1 : Nat) : Int))) → K { ρ := ρ', σ := [(0, v, .list 5 1 ((wdL n i).map encB ++ [.int .u8 ((n / 256 ^ i % 256 : Nat) : Int)]))] } := by
      intro v ρ' g5 g0 g1 g6
      refine hK _ (s - (i + 1)) (by omega) ⟨i + 1, rfl, by omega, .inr ⟨v, ?_, g5⟩, g0, g1, g6⟩
      simp only [wdL, List.map_append, List.map_cons, List.map_nil, encB_ofNat (show n / 256 ^ i % 256 < 256 by omega)]
    rcases hsl with ⟨rfl, rfl, h5⟩ | ⟨v, rfl, h5⟩
    · have hsh' : Int.fdiv (n : Int) (2 ^ (min ((8 * ((0 : Nat) : Int)).toNat) IntKind.u64.bits)) = ((n / 256 ^ 0 : Nat) : Int) := hsh
      simp only [Int.cast_ofNat_Int] at hw hwu g hsh' hw1 h6
      (refine wpc_region fun Kr hKr => ?_; simp only [go_sem, ↓reduceIte, Nat.reduceEqDiff, Nat.reduceAdd, Nat.reduceSub, Nat.reduceLeDiff, Nat.reduceMul, reduceCtorEq, Nat.reduceBEq, Int.reduceLT, Int.reduceLE, Int.reduceNeg, Int.reduceEq, h0, h5, h6, hw, hwu, g, shfOp, hsh', hu]; with_reducible refine hKr _ ?_; clear hKr Kr)
      (refine wpc_region fun Kr hKr => ?_; simp only [go_sem, ↓reduceIte, Nat.reduceEqDiff, Nat.reduceAdd, Nat.reduceSub, Nat.reduceLeDiff, Nat.reduceMul, reduceCtorEq, Nat.reduceBEq, Int.reduceLT, Int.reduceLE, Int.reduceNeg, Int.reduceEq, h6, hw1]; with_reducible refine hKr _ ?_; clear hKr Kr)
      exact fin _ _ (by simp only [go_sem, ↓reduceIte, Nat.reduceEqDiff, Nat.reduceAdd, Nat.reduceSub, Nat.reduceLeDiff, Nat.reduceMul, reduceCtorEq, Nat.reduceBEq, Int.reduceLT, Int.reduceLE, Int.reduceNeg, Int.reduceEq]) (by simp only [go_sem, ↓reduceIte, Nat.reduceEqDiff, Nat.reduceAdd, Nat.reduceSub, Nat.reduceLeDiff, Nat.reduceMul, reduceCtorEq, Nat.reduceBEq, Int.reduceLT, Int.reduceLE, Int.reduceNeg, Int.reduceEq, h0]) (by simp only [go_sem, ↓reduceIte, Nat.reduceEqDiff, Nat.reduceAdd, Nat.reduceSub, Nat.reduceLeDiff, Nat.reduceMul, reduceCtorEq, Nat.reduceBEq, Int.reduceLT, Int.reduceLE, Int.reduceNeg, Int.reduceEq, h1]) (by simp only [go_sem, ↓reduceIte, Nat.reduceEqDiff, Nat.reduceAdd, Nat.reduceSub, Nat.reduceLeDiff, Nat.reduceMul, reduceCtorEq, Nat.reduceBEq, Int.reduceLT, Int.reduceLE, Int.reduceNeg, Int.reduceEq])
    · (refine wpc_region fun Kr hKr => ?_; simp only [go_sem, ↓reduceIte, Nat.reduceEqDiff, Nat.reduceAdd, Nat.reduceSub, Nat.reduceLeDiff, Nat.reduceMul, reduceCtorEq, Nat.reduceBEq, Int.reduceLT, Int.reduceLE, Int.reduceNeg, Int.reduceEq, h0, h5, h6, hw, hwu, g, shfOp, hsh, hu, hlen]; with_reducible refine hKr _ ?_; clear hKr Kr)
      (refine wpc_region fun Kr hKr => ?_; simp only [go_sem, ↓reduceIte, Nat.reduceEqDiff, Nat.reduceAdd, Nat.reduceSub, Nat.reduceLeDiff, Nat.reduceMul, reduceCtorEq, Nat.reduceBEq, Int.reduceLT, Int.reduceLE, Int.reduceNeg, Int.reduceEq, h6, hw1]; with_reducible refine hKr _ ?_; clear hKr Kr)
      exact fin _ _ (by simp only [go_sem, ↓reduceIte, Nat.reduceEqDiff, Nat.reduceAdd, Nat.reduceSub, Nat.reduceLeDiff, Nat.reduceMul, reduceCtorEq, Nat.reduceBEq, Int.reduceLT, Int.reduceLE, Int.reduceNeg, Int.reduceEq]) (by simp only [go_sem, ↓reduceIte, Nat.reduceEqDiff, Nat.reduceAdd, Nat.reduceSub, Nat.reduceLeDiff, Nat.reduceMul, reduceCtorEq, Nat.reduceBEq, Int.reduceLT, Int.reduceLE, Int.reduceNeg, Int.reduceEq, h0]) (by simp only [go_sem, ↓reduceIte, Nat.reduceEqDiff, Nat.reduceAdd, Nat.reduceSub, Nat.reduceLeDiff, Nat.reduceMul, reduceCtorEq, Nat.reduceBEq, Int.reduceLT, Int.reduceLE, Int.reduceNeg, Int.reduceEq, h1]) (by simp only [go_sem, ↓reduceIte, Nat.reduceEqDiff, Nat.reduceAdd, Nat.reduceSub, Nat.reduceLeDiff, Nat.reduceMul, reduceCtorEq, Nat.reduceBEq, Int.reduceLT, Int.reduceLE, Int.reduceNeg, Int.reduceEq])
  · have : i = s := by omega
    subst this
    (refine wpc_false (by simp only [ev, lk, Nat.reduceEqDiff, ↓reduceIte, decide_true, decide_false, Bool.not_true, Bool.not_false, Bool.true_and, Bool.false_and, Bool.and_true, Bool.and_false, Bool.or_false, Bool.false_or, Bool.true_or, Bool.or_true, Bool.and_self, Bool.or_self, Int.cast_ofNat_Int, Int.natCast_inj, Int.ofNat_lt, Int.ofNat_le, Int.natCast_nonneg, eq_self, Int.reduceLT, Int.reduceLE, Int.reduceEq, Bool.false_eq_true, if_true, if_false, reduceCtorEq, and_self, and_true, true_and, and_false, false_and, hlt]) ?_)
    show wpc _ (.seq _ _) _ _
    rcases hsl with ⟨rfl, rfl, h5⟩ | ⟨v, rfl, h5⟩
    · omega
    · (refine wpc_seq ?_); (refine wpc_region fun Kr hKr => ?_; simp only [go_sem, ↓reduceIte, Nat.reduceEqDiff, Nat.reduceAdd, Nat.reduceSub, Nat.reduceLeDiff, Nat.reduceMul, reduceCtorEq, Nat.reduceBEq, Int.reduceLT, Int.reduceLE, Int.reduceNeg, Int.reduceEq, h5]; with_reducible refine hKr _ ?_; clear hKr Kr)
      (refine endsV (x := _) (σ' := _) (by simp only [retOf, retVals, oneOrTup, callArgs, callArgsL, evAll, ev, lk, shutAll, shut, nrm, nrm0, nrm1, upd, ↓reduceIte, Nat.reduceEqDiff, List.map_nil, List.map_cons, eq_self, if_true, if_false, reduceCtorEq, and_self, ownRes]; rfl) ?_)
      rfl

def pcL (bs : List UInt8) : List UInt8 := pvL bs.length ++ bs
def spT (g : Nat × Nat × Nat) (len : Nat) : Nat × Nat × Nat := if g.2.2 = 0 then (if len - g.2.1 < g.1 then (0, 0, 3) else (g.2.1, g.2.1 + g.1, 0)) else (0, 0, g.2.2)
def spAt (bs : List UInt8) (k : Int) : Nat × Nat × Nat := spT (gvAt bs k) bs.length
def encSP (r : Nat × Nat × Nat) : IV := .tup [.int .i64 r.1, .int .i64 r.2.1, .int .i64 r.2.2]

def gcT (bs : List UInt8) (g : Nat × Nat × Nat) : List UInt8 × Nat × Nat := if g.2.2 = 0 then ((bs.drop g.1).take (g.2.1 - g.1), g.2.1, 0) else ([], 0, g.2.2)
def gcAt (bs : List UInt8) (k : Int) : List UInt8 × Nat × Nat := gcT bs (spAt bs k)
def encGC (r : List UInt8 × Nat × Nat) : IV := .tup [.slice (r.1.map encB), .int .i64 r.2.1, .int .i64 r.2.2]
theorem spAt_ok {bs : List UInt8} {k : Int} {p q : Nat} (h : spAt bs k = (p, q, 0)) : 0 ≤ k ∧ k < p ∧ p ≤ q ∧ q ≤ bs.length := by
  unfold spAt spT at h
  generalize hg : gvAt bs k = g at h
  obtain ⟨n, p', e⟩ := g
  simp only at h
  split at h
  · rename_i he
    subst he
    have := gvAt_next hg
    split at h
    · simp at h
    · simp at h; omega
  · rename_i he; simp at h; omega

theorem or_add8 {n c i : Nat} (hn : n < 256 ^ i) : n ||| (c * 256 ^ i) = n + c * 256 ^ i := by
  have h2 : (256 : Nat) ^ i = 2 ^ (8 * i) := by rw [Nat.pow_mul]
  rw [h2] at hn ⊢
  have := Nat.shiftLeft_add_eq_or_of_lt hn c
  rw [Nat.shiftLeft_eq] at this
  rw [Nat.or_comm, ← this, Nat.add_comm]
theorem pow_small8 {i : Nat} (h : i ≤ 7) : 256 ^ i ≤ 72057594037927936 := by
  have := Nat.pow_le_pow_right (n := 256) (by omega) h
  have e : (256 : Nat) ^ 7 = 72057594037927936 := by decide
  omega
theorem byte_or {n c i : Nat} (hi : i ≤ 7) (hn : n < 256 ^ i) (hc : c < 256) :
    bitOp .or .u64 (n : Int) (IntKind.u64.wrap ((c : Int) * 2 ^ (min ((8 * (i : Int)).toNat) IntKind.u64.bits))) = ((n + c * 256 ^ i : Nat) : Int) := by
  have e1 : (8 * (i : Int)).toNat = 8 * i := by omega
  have e2 : min (8 * i) IntKind.u64.bits = 8 * i := by rw [u64_bits]; omega
  have e3 : ((2 : Int) ^ (8 * i)) = ((256 ^ i : Nat) : Int) := by
    rw [Int.natCast_pow, Int.pow_mul]; rfl
  rw [e1, e2, e3]
  have hp := pow_small8 hi
  have hlt : c * 256 ^ i ≤ 255 * 72057594037927936 := Nat.mul_le_mul (by omega) hp
  rw [← Int.natCast_mul, wrap_u64 (by omega) (by omega), bitor_nat (by omega) (by omega), or_add8 hn]

def rdAt (bs : List UInt8) (k : Int) (s : Nat) : Nat × Nat × Nat :=
  if 0 ≤ k ∧ k ≤ bs.length then (if bs.length - k.toNat < s then (0, 0, 3) else (leN ((bs.drop k.toNat).take s), k.toNat + s, 0)) else (0, 0, 18)

theorem leN_take {l : List UInt8} {i : Nat} {b : UInt8} (h : l[i]? = some b) : leN (l.take (i + 1)) = leN (l.take i) + b.toNat * 256 ^ i := by
  have hi := (List.getElem?_eq_some_iff.1 h).1
  rw [List.take_add_one, h, Option.toList_some, leN_append, List.length_take, Nat.min_eq_left (by omega)]
theorem leN_take_lt (l : List UInt8) {i : Nat} (h : i ≤ l.length) : leN (l.take i) < 256 ^ i := by
  have := leN_lt (l.take i)
  rwa [List.length_take, Nat.min_eq_left h] at this

theorem read_fc (bs : List UInt8) (k : Int) (s : Nat) (hs : s ≤ 8) (hb : bs.length < 4611686018427387904) : FC Try.prog i_wire_read [.slice (bs.map encB), .int .i64 k, .int .i64 (s : Int)] (· = encGV (rdAt bs k s)) := by
  (refine .of F_wire_read T_wire_read L_wire_read ?_; unfold A_wire_read; simp only [args0, zl0, zl1, zl2, zl3])
  (refine wpc_seq ?_); (refine wpc_region fun Kr hKr => ?_; simp only [go_sem, ↓reduceIte, Nat.reduceEqDiff, Nat.reduceAdd, Nat.reduceSub, Nat.reduceLeDiff, Nat.reduceMul, reduceCtorEq, Nat.reduceBEq, Int.reduceLT, Int.reduceLE, Int.reduceNeg, Int.reduceEq]; with_reducible refine hKr _ ?_; clear hKr Kr)
  (refine wpc_seq ?_)
  show wpc _ (.seq _ _) _ _
  (refine wpc_seq ?_); (refine wpc_region fun Kr hKr => ?_; simp only [go_sem, ↓reduceIte, Nat.reduceEqDiff, Nat.reduceAdd, Nat.reduceSub, Nat.reduceLeDiff, Nat.reduceMul, reduceCtorEq, Nat.reduceBEq, Int.reduceLT, Int.reduceLE, Int.reduceNeg, Int.reduceEq])
  (refine wpr_callE (place_fc (bs.map encB) k) (σ' := _) (by simp only [callArgs, callArgsL, evAll, ev, lk, shutAll, shut, nrm, nrm0, nrm1, upd, ↓reduceIte, Nat.reduceEqDiff, List.map_nil, List.map_cons, eq_self, if_true, if_false, reduceCtorEq, and_self, ownRes]; rfl) ?_; simp only [go_sem, ↓reduceIte, Nat.reduceEqDiff, Nat.reduceAdd, Nat.reduceSub, Nat.reduceLeDiff, Nat.reduceMul, reduceCtorEq, Nat.reduceBEq, Int.reduceLT, Int.reduceLE, Int.reduceNeg, Int.reduceEq])
  (with_reducible refine hKr _ ?_; clear hKr Kr)
  by_cases hp : 0 ≤ k ∧ k ≤ bs.length
  · obtain ⟨hk0, hk1⟩ := hp
    obtain ⟨a, rfl⟩ := Int.eq_ofNat_of_zero_le hk0
    have hk1' : a ≤ bs.length := by omega
    (refine wpc_false (by simp only [ev, lk, Nat.reduceEqDiff, ↓reduceIte, decide_true, decide_false, Bool.not_true, Bool.not_false, Bool.true_and, Bool.false_and, Bool.and_true, Bool.and_false, Bool.or_false, Bool.false_or, Bool.true_or, Bool.or_true, Bool.and_self, Bool.or_self, Int.cast_ofNat_Int, Int.natCast_inj, Int.ofNat_lt, Int.ofNat_le, Int.natCast_nonneg, eq_self, Int.reduceLT, Int.reduceLE, Int.reduceEq, Bool.false_eq_true, if_true, if_false, reduceCtorEq, and_self, and_true, true_and, and_false, false_and, hk0, hk1']) ?_)
    have w1 : IntKind.i64.wrap ((bs.length : Int) - (a : Int)) = ((bs.length - a : Nat) : Int) := by rw [wrap_i64 (by omega) (by omega)]; omega
    (refine wpc_seq ?_); (refine wpc_region fun Kr hKr => ?_; simp only [go_sem, ↓reduceIte, Nat.reduceEqDiff, Nat.reduceAdd, Nat.reduceSub, Nat.reduceLeDiff, Nat.reduceMul, reduceCtorEq, Nat.reduceBEq, Int.reduceLT, Int.reduceLE, Int.reduceNeg, Int.reduceEq, w1]; with_reducible refine hKr _ ?_; clear hKr Kr)
    by_cases hn : bs.length - a < s
    · (refine wpc_true (by simp only [ev, lk, Nat.reduceEqDiff, ↓reduceIte, decide_true, decide_false, Bool.not_true, Bool.not_false, Bool.true_and, Bool.false_and, Bool.and_true, Bool.and_false, Bool.or_false, Bool.false_or, Bool.true_or, Bool.or_true, Bool.and_self, Bool.or_self, Int.cast_ofNat_Int, Int.natCast_inj, Int.ofNat_lt, Int.ofNat_le, Int.natCast_nonneg, eq_self, Int.reduceLT, Int.reduceLE, Int.reduceEq, Bool.false_eq_true, if_true, if_false, reduceCtorEq, and_self, and_true, true_and, and_false, false_and, hn]) ?_)
      (refine wpc_seq ?_); (refine wpc_region fun Kr hKr => ?_; simp only [go_sem, ↓reduceIte, Nat.reduceEqDiff, Nat.reduceAdd, Nat.reduceSub, Nat.reduceLeDiff, Nat.reduceMul, reduceCtorEq, Nat.reduceBEq, Int.reduceLT, Int.reduceLE, Int.reduceNeg, Int.reduceEq]; with_reducible refine hKr _ ?_; clear hKr Kr)
      (refine endsV (x := _) (σ' := _) (by simp only [retOf, retVals, oneOrTup, callArgs, callArgsL, evAll, ev, lk, shutAll, shut, nrm, nrm0, nrm1, upd, ↓reduceIte, Nat.reduceEqDiff, List.map_nil, List.map_cons, eq_self, if_true, if_false, reduceCtorEq, and_self, ownRes]; rfl) ?_)
      simp only [rdAt, if_pos (show (0 : Int) ≤ (a : Int) ∧ (a : Int) ≤ bs.length from ⟨hk0, hk1⟩), Int.toNat_natCast, if_pos hn]; rfl
    (refine wpc_false (by simp only [ev, lk, Nat.reduceEqDiff, ↓reduceIte, decide_true, decide_false, Bool.not_true, Bool.not_false, Bool.true_and, Bool.false_and, Bool.and_true, Bool.and_false, Bool.or_false, Bool.false_or, Bool.true_or, Bool.or_true, Bool.and_self, Bool.or_self, Int.cast_ofNat_Int, Int.natCast_inj, Int.ofNat_lt, Int.ofNat_le, Int.natCast_nonneg, eq_self, Int.reduceLT, Int.reduceLE, Int.reduceEq, Bool.false_eq_true, if_true, if_false, reduceCtorEq, and_self, and_true, true_and, and_false, false_and, hn]) ?_)
    (refine wpc_skip' ?_)
    show wpc _ (.seq (.seq _ _) _) _ _
    (refine wpc_seq ?_); (refine wpc_seq ?_); (refine wpc_region fun Kr hKr => ?_; simp only [go_sem, ↓reduceIte, Nat.reduceEqDiff, Nat.reduceAdd, Nat.reduceSub, Nat.reduceLeDiff, Nat.reduceMul, reduceCtorEq, Nat.reduceBEq, Int.reduceLT, Int.reduceLE, Int.reduceNeg, Int.reduceEq]; with_reducible refine hKr _ ?_; clear hKr Kr)
    show wpc _ (.block 1 (.loop _)) _ _
    refine wpc_loop (fun m st => ∃ i : Nat, m = s - i ∧ i ≤ s ∧ st.σ = [] ∧ lk st.ρ 0 = some (.iv (.slice (bs.map encB))) ∧ lk st.ρ 1 = some (.iv (.int .i64 (a : Int))) ∧ lk st.ρ 2 = some (.iv (.int .i64 (s : Int))) ∧ lk st.ρ 6 = some (.iv (.int .u64 (leN ((bs.drop a).take i) : Nat))) ∧
        lk st.ρ 22 = some (.iv (.int .i64 (s : Int))) ∧ lk st.ρ 23 = some (.iv (.int .i64 (i : Int)))) s ⟨0, rfl, by omega, rfl, ?_, ?_, ?_, ?_, ?_, ?_⟩ ?_
    · simp only [go_sem, ↓reduceIte, Nat.reduceEqDiff, Nat.reduceAdd, Nat.reduceSub, Nat.reduceLeDiff, Nat.reduceMul, reduceCtorEq, Nat.reduceBEq, Int.reduceLT, Int.reduceLE, Int.reduceNeg, Int.reduceEq]
    · simp only [go_sem, ↓reduceIte, Nat.reduceEqDiff, Nat.reduceAdd, Nat.reduceSub, Nat.reduceLeDiff, Nat.reduceMul, reduceCtorEq, Nat.reduceBEq, Int.reduceLT, Int.reduceLE, Int.reduceNeg, Int.reduceEq]
    · simp only [go_sem, ↓reduceIte, Nat.reduceEqDiff, Nat.reduceAdd, Nat.reduceSub, Nat.reduceLeDiff, Nat.reduceMul, reduceCtorEq, Nat.reduceBEq, Int.reduceLT, Int.reduceLE, Int.reduceNeg, Int.reduceEq]
    · simp only [go_sem, ↓reduceIte, Nat.reduceEqDiff, Nat.reduceAdd, Nat.reduceSub, Nat.reduceLeDiff, Nat.reduceMul, reduceCtorEq, Nat.reduceBEq, Int.reduceLT, Int.reduceLE, Int.reduceNeg, Int.reduceEq]; rfl
    · simp only [go_sem, ↓reduceIte, Nat.reduceEqDiff, Nat.reduceAdd, Nat.reduceSub, Nat.reduceLeDiff, Nat.reduceMul, reduceCtorEq, Nat.reduceBEq, Int.reduceLT, Int.reduceLE, Int.reduceNeg, Int.reduceEq]
    · simp only [go_sem, ↓reduceIte, Nat.reduceEqDiff, Nat.reduceAdd, Nat.reduceSub, Nat.reduceLeDiff, Nat.reduceMul, reduceCtorEq, Nat.reduceBEq, Int.reduceLT, Int.reduceLE, Int.reduceNeg, Int.reduceEq]
    rintro m st ⟨i, rfl, hi, hσ, h0, h1, h2, h6, h22, h23⟩ K hK
    obtain ⟨ρ, σ⟩ := st
    simp only at hσ h0 h1 h2 h6 h22 h23
    subst hσ
    (refine wpc_seq ?_); (refine wpc_region fun Kr hKr => ?_; simp only [go_sem, ↓reduceIte, Nat.reduceEqDiff, Nat.reduceAdd, Nat.reduceSub, Nat.reduceLeDiff, Nat.reduceMul, reduceCtorEq, Nat.reduceBEq, Int.reduceLT, Int.reduceLE, Int.reduceNeg, Int.reduceEq, h22, h23]; with_reducible refine hKr _ ?_; clear hKr Kr)
    (refine wpc_seq ?_)
    by_cases hlt : i < s
    · (refine wpc_true (by simp only [ev, lk, Nat.reduceEqDiff, ↓reduceIte, decide_true, decide_false, Bool.not_true, Bool.not_false, Bool.true_and, Bool.false_and, Bool.and_true, Bool.and_false, Bool.or_false, Bool.false_or, Bool.true_or, Bool.or_true, Bool.and_self, Bool.or_self, Int.cast_ofNat_Int, Int.natCast_inj, Int.ofNat_lt, Int.ofNat_le, Int.natCast_nonneg, eq_self, Int.reduceLT, Int.reduceLE, Int.reduceEq, Bool.false_eq_true, if_true, if_false, reduceCtorEq, and_self, and_true, true_and, and_false, false_and, hlt]) ?_)
      (refine wpc_skip' ?_)
      (refine wpc_seq ?_)
      show wpc _ (.seq _ _) _ _
      (refine wpc_seq ?_); (refine wpc_region fun Kr hKr => ?_; simp only [go_sem, ↓reduceIte, Nat.reduceEqDiff, Nat.reduceAdd, Nat.reduceSub, Nat.reduceLeDiff, Nat.reduceMul, reduceCtorEq, Nat.reduceBEq, Int.reduceLT, Int.reduceLE, Int.reduceNeg, Int.reduceEq, h23]; with_reducible refine hKr _ ?_; clear hKr Kr)
      have hai : a + i < bs.length := by omega
      obtain ⟨b, hbb⟩ : ∃ b, bs[a + i]? = some b := ⟨_, List.getElem?_eq_getElem hai⟩
      have hm : (bs.map encB)[a + i]? = some (encB b) := by simp [hbb]
      have hd : (bs.drop a)[i]? = some b := by rw [List.getElem?_drop]; exact hbb
      have hbl := b.toNat_lt
      have w2 : IntKind.i64.wrap ((a : Int) + (i : Int)) = ((a + i : Nat) : Int) := by rw [wrap_i64 (by omega) (by omega)]; omega
      have w3 : IntKind.u64.wrap (b.toNat : Int) = (b.toNat : Int) := wrap_u64 (by omega) (by omega)
      have w4 : IntKind.i64.wrap (8 * (i : Int)) = 8 * (i : Int) := wrap_i64 (by omega) (by omega)
      have g : ¬ (8 * (i : Int) < 0) := by omega
      have ho := byte_or (n := leN ((bs.drop a).take i)) (c := b.toNat) (i := i) (by omega) (leN_take_lt _ (by simp; omega)) (by omega)
      (refine wpc_region fun Kr hKr => ?_; simp only [go_sem, ↓reduceIte, Nat.reduceEqDiff, Nat.reduceAdd, Nat.reduceSub, Nat.reduceLeDiff, Nat.reduceMul, reduceCtorEq, Nat.reduceBEq, Int.reduceLT, Int.reduceLE, Int.reduceNeg, Int.reduceEq, h0, h1, h6, h23, w2, hm, encB, w3, w4, g, shfOp, ho]; with_reducible refine hKr _ ?_; clear hKr Kr)
      have w5 : IntKind.i64.wrap ((i : Int) + 1) = ((i + 1 : Nat) : Int) := by rw [wrap_i64 (by omega) (by omega)]; omega
      (refine wpc_region fun Kr hKr => ?_; simp only [go_sem, ↓reduceIte, Nat.reduceEqDiff, Nat.reduceAdd, Nat.reduceSub, Nat.reduceLeDiff, Nat.reduceMul, reduceCtorEq, Nat.reduceBEq, Int.reduceLT, Int.reduceLE, Int.reduceNeg, Int.reduceEq, h23, w5]; with_reducible refine hKr _ ?_; clear hKr Kr)
      refine hK _ (s - (i + 1)) (by omega) ⟨i + 1, rfl, by omega, rfl, ?_, ?_, ?_, ?_, ?_, ?_⟩
      · simp only [go_sem, ↓reduceIte, Nat.reduceEqDiff, Nat.reduceAdd, Nat.reduceSub, Nat.reduceLeDiff, Nat.reduceMul, reduceCtorEq, Nat.reduceBEq, Int.reduceLT, Int.reduceLE, Int.reduceNeg, Int.reduceEq, h0]
      · simp only [go_sem, ↓reduceIte, Nat.reduceEqDiff, Nat.reduceAdd, Nat.reduceSub, Nat.reduceLeDiff, Nat.reduceMul, reduceCtorEq, Nat.reduceBEq, Int.reduceLT, Int.reduceLE, Int.reduceNeg, Int.reduceEq, h1]
      · simp only [go_sem, ↓reduceIte, Nat.reduceEqDiff, Nat.reduceAdd, Nat.reduceSub, Nat.reduceLeDiff, Nat.reduceMul, reduceCtorEq, Nat.reduceBEq, Int.reduceLT, Int.reduceLE, Int.reduceNeg, Int.reduceEq, h2]
      · rw [leN_take hd]; simp only [go_sem, ↓reduceIte, Nat.reduceEqDiff, Nat.reduceAdd, Nat.reduceSub, Nat.reduceLeDiff, Nat.reduceMul, reduceCtorEq, Nat.reduceBEq, Int.reduceLT, Int.reduceLE, Int.reduceNeg, Int.reduceEq]
      · simp only [go_sem, ↓reduceIte, Nat.reduceEqDiff, Nat.reduceAdd, Nat.reduceSub, Nat.reduceLeDiff, Nat.reduceMul, reduceCtorEq, Nat.reduceBEq, Int.reduceLT, Int.reduceLE, Int.reduceNeg, Int.reduceEq, h22]
      · simp only [go_sem, ↓reduceIte, Nat.reduceEqDiff, Nat.reduceAdd, Nat.reduceSub, Nat.reduceLeDiff, Nat.reduceMul, reduceCtorEq, Nat.reduceBEq, Int.reduceLT, Int.reduceLE, Int.reduceNeg, Int.reduceEq]
    · have : i = s := by omega
      subst this
      (refine wpc_false (by simp only [ev, lk, Nat.reduceEqDiff, ↓reduceIte, decide_true, decide_false, Bool.not_true, Bool.not_false, Bool.true_and, Bool.false_and, Bool.and_true, Bool.and_false, Bool.or_false, Bool.false_or, Bool.true_or, Bool.or_true, Bool.and_self, Bool.or_self, Int.cast_ofNat_Int, Int.natCast_inj, Int.ofNat_lt, Int.ofNat_le, Int.natCast_nonneg, eq_self, Int.reduceLT, Int.reduceLE, Int.reduceEq, Bool.false_eq_true, if_true, if_false, reduceCtorEq, and_self, and_true, true_and, and_false, false_and, hlt]) ?_)
      show wpc _ (.seq _ _) _ _
      have w2 : IntKind.i64.wrap ((a : Int) + (i : Int)) = ((a + i : Nat) : Int) := by rw [wrap_i64 (by omega) (by omega)]; omega
      (refine wpc_seq ?_); (refine wpc_region fun Kr hKr => ?_; simp only [go_sem, ↓reduceIte, Nat.reduceEqDiff, Nat.reduceAdd, Nat.reduceSub, Nat.reduceLeDiff, Nat.reduceMul, reduceCtorEq, Nat.reduceBEq, Int.reduceLT, Int.reduceLE, Int.reduceNeg, Int.reduceEq, h1, h2, h6, w2]; with_reducible refine hKr _ ?_; clear hKr Kr)
      (refine endsV (x := _) (σ' := _) (by simp only [retOf, retVals, oneOrTup, callArgs, callArgsL, evAll, ev, lk, shutAll, shut, nrm, nrm0, nrm1, upd, ↓reduceIte, Nat.reduceEqDiff, List.map_nil, List.map_cons, eq_self, if_true, if_false, reduceCtorEq, and_self, ownRes]; rfl) ?_)
      simp only [rdAt, if_pos (show (0 : Int) ≤ (a : Int) ∧ (a : Int) ≤ bs.length from ⟨hk0, hk1⟩), Int.toNat_natCast, if_neg hn]; rfl
  · (refine wpc_true (by simp only [ev, lk, Nat.reduceEqDiff, ↓reduceIte, decide_true, decide_false, Bool.not_true, Bool.not_false, Bool.true_and, Bool.false_and, Bool.and_true, Bool.and_false, Bool.or_false, Bool.false_or, Bool.true_or, Bool.or_true, Bool.and_self, Bool.or_self, Int.cast_ofNat_Int, Int.natCast_inj, Int.ofNat_lt, Int.ofNat_le, Int.natCast_nonneg, eq_self, Int.reduceLT, Int.reduceLE, Int.reduceEq, Bool.false_eq_true, if_true, if_false, reduceCtorEq, and_self, and_true, true_and, and_false, false_and, hp]) ?_)
    (refine wpc_seq ?_); (refine wpc_region fun Kr hKr => ?_; simp only [go_sem, ↓reduceIte, Nat.reduceEqDiff, Nat.reduceAdd, Nat.reduceSub, Nat.reduceLeDiff, Nat.reduceMul, reduceCtorEq, Nat.reduceBEq, Int.reduceLT, Int.reduceLE, Int.reduceNeg, Int.reduceEq]; with_reducible refine hKr _ ?_; clear hKr Kr)
    (refine endsV (x := _) (σ' := _) (by simp only [retOf, retVals, oneOrTup, callArgs, callArgsL, evAll, ev, lk, shutAll, shut, nrm, nrm0, nrm1, upd, ↓reduceIte, Nat.reduceEqDiff, List.map_nil, List.map_cons, eq_self, if_true, if_false, reduceCtorEq, and_self, ownRes]; rfl) ?_)
    simp only [rdAt, if_neg hp]; rfl

theorem rdAt_lt (bs : List UInt8) (k : Int) (s : Nat) : (rdAt bs k s).1 < 256 ^ s := by
  have hp : 0 < 256 ^ s := Nat.pow_pos (by omega)
  unfold rdAt
  split
  · split
    · exact hp
    · exact leN_take_lt _ (by simp; omega)
  · exact hp

def enc32 (r : Nat × Nat × Nat) : IV := .tup [.int .u32 r.1, .int .i64 r.2.1, .int .i64 r.2.2]
theorem getFix32_fc (bs : List UInt8) (k : Int) (hb : bs.length < 4611686018427387904) : FC Try.prog i_wire_GetFix32 [.slice (bs.map encB), .int .i64 k] (· = enc32 (rdAt bs k 4)) := by
  (refine .of F_wire_GetFix32 T_wire_GetFix32 L_wire_GetFix32 ?_; unfold A_wire_GetFix32; simp only [args0, zl0, zl1, zl2, zl3])
  (refine wpc_seq ?_); (refine wpc_region fun Kr hKr => ?_; simp only [go_sem, ↓reduceIte, Nat.reduceEqDiff, Nat.reduceAdd, Nat.reduceSub, Nat.reduceLeDiff, Nat.reduceMul, reduceCtorEq, Nat.reduceBEq, Int.reduceLT, Int.reduceLE, Int.reduceNeg, Int.reduceEq]; with_reducible refine hKr _ ?_; clear hKr Kr)
  have hl := rdAt_lt bs k 4
  have e : (256 : Nat) ^ 4 = 4294967296 := by decide
  have w1 : IntKind.u32.wrap ((rdAt bs k 4).1 : Int) = ((rdAt bs k 4).1 : Int) := IntWalk.u32_in _ ⟨by omega, by omega⟩
  (refine wpc_seq ?_); (refine wpc_region fun Kr hKr => ?_; simp only [go_sem, ↓reduceIte, Nat.reduceEqDiff, Nat.reduceAdd, Nat.reduceSub, Nat.reduceLeDiff, Nat.reduceMul, reduceCtorEq, Nat.reduceBEq, Int.reduceLT, Int.reduceLE, Int.reduceNeg, Int.reduceEq])
  (refine wpr_callE (read_fc bs k 4 (by omega) hb) (σ' := _) (by simp only [callArgs, callArgsL, evAll, ev, lk, shutAll, shut, nrm, nrm0, nrm1, upd, ↓reduceIte, Nat.reduceEqDiff, List.map_nil, List.map_cons, eq_self, if_true, if_false, reduceCtorEq, and_self, ownRes, encGV]; rfl) ?_; simp only [go_sem, ↓reduceIte, Nat.reduceEqDiff, Nat.reduceAdd, Nat.reduceSub, Nat.reduceLeDiff, Nat.reduceMul, reduceCtorEq, Nat.reduceBEq, Int.reduceLT, Int.reduceLE, Int.reduceNeg, Int.reduceEq, encGV])
  (with_reducible refine hKr _ ?_; clear hKr Kr)
  (refine wpc_seq ?_); (refine wpc_region fun Kr hKr => ?_; simp only [go_sem, ↓reduceIte, Nat.reduceEqDiff, Nat.reduceAdd, Nat.reduceSub, Nat.reduceLeDiff, Nat.reduceMul, reduceCtorEq, Nat.reduceBEq, Int.reduceLT, Int.reduceLE, Int.reduceNeg, Int.reduceEq, w1]; with_reducible refine hKr _ ?_; clear hKr Kr)
  (refine endsV (x := _) (σ' := _) (by simp only [retOf, retVals, oneOrTup, callArgs, callArgsL, evAll, ev, lk, shutAll, shut, nrm, nrm0, nrm1, upd, ↓reduceIte, Nat.reduceEqDiff, List.map_nil, List.map_cons, eq_self, if_true, if_false, reduceCtorEq, and_self, ownRes]; rfl) ?_)
  rfl
theorem leN_drop {l : List UInt8} {j : Nat} {b : UInt8} (h : l[j]? = some b) : leN (l.drop j) = leN (l.drop (j + 1)) * 256 + b.toNat := by
  have hlt := (List.getElem?_eq_some_iff.1 h).1
  rw [List.drop_eq_getElem_cons hlt]
  have : l[j] = b := by have := List.getElem?_eq_getElem hlt; rw [h] at this; injection this with this; exact this.symm
  rw [this]
  simp only [leN]
  omega

end Go.Proofs.Ytinoaofgbkdohaa.Ag
