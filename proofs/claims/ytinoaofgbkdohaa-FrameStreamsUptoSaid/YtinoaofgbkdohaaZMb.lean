/- Sums of bytes. -/
import Derived.Test.YtinoaofgbkdohaaZWg
import Derived.Test.YtinoaofgbkdohaaAgXX
import Derived.Test.YtinoaofgbkdohaaZAir
set_option linter.unusedVariables false
set_option linter.unusedSimpArgs false
set_option maxRecDepth 100000
set_option maxHeartbeats 2000000
open List renaming map_cons → zl0, map_nil → zl1, zipIdx_cons → zl2, zipIdx_nil → zl3
open Nat renaming reduceEqDiff → zn0, reduceAdd → zn1, reduceSub → zn2, reduceLeDiff → zn3, reduceMul → zn4, reduceBEq → zn5, reducePow → zn6, reduceLT → zn7, reduceDiv → zn8, reduceMod → zn9
open Int renaming reduceLT → zi0, reduceLE → zi1, reduceNeg → zi2, reduceEq → zi3, reduceToNat → zi4
namespace Go.Proofs.Ytinoaofgbkdohaa.Ag
def sstep (h : Int) (b : UInt8) : Int := IntKind.u32.wrap (bitOp .xor .u32 h (b.toNat : Int) * 16777619)
def fnv (h : Int) (bs : List UInt8) : Int := bs.foldl sstep h
def fnv0 : Int := 2166136261
theorem fnv_app (h : Int) (a b : List UInt8) : fnv h (a ++ b) = fnv (fnv h a) b := List.foldl_append
theorem wrap_u32_range (n : Int) : 0 ≤ IntKind.u32.wrap n ∧ IntKind.u32.wrap n < 4294967296 := by
  rw [IntKind.wrap_u32]; omega
theorem fnv_range : ∀ (bs : List UInt8) (h : Int), 0 ≤ h ∧ h < 4294967296 → 0 ≤ fnv h bs ∧ fnv h bs < 4294967296
  | [], h, hh => hh
  | b :: bs, h, hh => fnv_range bs (sstep h b) (wrap_u32_range _)
theorem fnv_take {bs : List UInt8} {i : Nat} {b : UInt8} (h0 : Int) (h : bs[i]? = some b) : fnv h0 (bs.take (i + 1)) = sstep (fnv h0 (bs.take i)) b := by
  rw [List.take_add_one, h, Option.toList_some, fnv_app]; rfl
theorem wrapB (b : UInt8) : IntKind.u32.wrap (b.toNat : Int) = (b.toNat : Int) := by
  have := b.toNat_lt
  exact IntWalk.u32_in _ ⟨by omega, by omega⟩
def envN : Env := {}
theorem envN_ok : EnvOk Try.prog envN := EnvOk.none
def SmI (bs : List UInt8) (h0 : Int) (n : Nat) (s : St) : Prop := ∃ (i : Nat), lk s.ρ 7 = some (.iv (.slice (bs.map encB))) ∧ lk s.ρ 8 = some (.iv (.int .i64 (bs.length : Int))) ∧ lk s.ρ 9 = some (.iv (.int .i64 (i : Int))) ∧ lk s.ρ 0 = some (.iv (.int .u32 (fnv h0 (bs.take i)))) ∧ i ≤ bs.length ∧ bs.length < i + n
theorem sum_fc (h : Int) (bs : List UInt8) (hb : bs.length ≤ 140737488351232) : FC Try.prog i_frame_sum [.int .u32 h, .slice (bs.map encB)] (· = .int .u32 (fnv h bs)) := by
  (refine FC.vc (envN_ok) F_frame_sum T_frame_sum L_frame_sum ?_; unfold A_frame_sum; simp only [args0, zl0, zl1, zl2, zl3, zn1])
  (simp -implicitDefEqProofs +contextual (maxSteps := 8000000) only [go_sem, ↓reduceIte, zn0, zn1, zn2, zn3, zn4, reduceCtorEq, zn5, zi0, zi1, zi2, zi3, zi4, zn6, zn7, zn8, zn9, envN])
  refine vc_loop (SmI bs h) (bs.length + 1) ⟨0, by simp [lk], by simp [lk], by simp [lk], by simp [lk, fnv], by omega, by omega⟩ ?_
  rintro n s ⟨i, h7, h8, h9, h0, g1, g2⟩
  by_cases hi : i < bs.length
  · obtain ⟨b, hbi⟩ : ∃ b, bs[i]? = some b := ⟨bs[i], by simp [hi]⟩
    have hw : IntKind.i64.wrap ((i : Int) + 1) = ((i + 1 : Nat) : Int) := by rw [wrap_i64 (by omega) (by omega)]; omega
    have hgx : (bs.map encB)[i]? = some (encB b) := by simp [hbi]
    simp only [encB] at hgx
    (simp -implicitDefEqProofs +contextual (maxSteps := 8000000) only [go_sem, ↓reduceIte, zn0, zn1, zn2, zn3, zn4, reduceCtorEq, zn5, zi0, zi1, zi2, zi3, zi4, zn6, zn7, zn8, zn9, envN, h7, h8, h9, h0, hi, hw, hgx, wrapB, Option.some.injEq, forall_eq'])
    exact ⟨n - 1, by omega, i + 1, by simp [lk, h7], by simp [lk, h8], by simp [lk], by simp [lk, fnv_take h hbi, sstep], by omega, by omega⟩
  · (simp -implicitDefEqProofs +contextual (maxSteps := 8000000) only [go_sem, ↓reduceIte, zn0, zn1, zn2, zn3, zn4, reduceCtorEq, zn5, zi0, zi1, zi2, zi3, zi4, zn6, zn7, zn8, zn9, envN, h7, h8, h9, h0, hi])
    rw [List.take_of_length_le (by omega)]
def RSmI (bs : List UInt8) (n : Nat) (s : St) : Prop := ∃ (i : Nat), lk s.ρ 0 = some (.iv (.slice (bs.map encB))) ∧ lk s.ρ 4 = some (.iv (.int .i64 (i : Int))) ∧ lk s.ρ 3 = some (.iv (.int .u32 (fnv fnv0 (bs.take i)))) ∧ i ≤ bs.length ∧ bs.length < i + n
theorem ref_sum_fc (bs : List UInt8) (hb : bs.length ≤ 140737488351232) : FC Try.prog i_cartoucheref23_Sum [.slice (bs.map encB)] (· = .int .u32 (fnv fnv0 bs)) := by
  (refine FC.vc (envN_ok) F_cartoucheref23_Sum T_cartoucheref23_Sum L_cartoucheref23_Sum ?_; unfold A_cartoucheref23_Sum; simp only [args0, zl0, zl1, zl2, zl3, zn1])
  (simp -implicitDefEqProofs +contextual (maxSteps := 8000000) only [go_sem, ↓reduceIte, zn0, zn1, zn2, zn3, zn4, reduceCtorEq, zn5, zi0, zi1, zi2, zi3, zi4, zn6, zn7, zn8, zn9, envN])
  refine vc_loop (RSmI bs) (bs.length + 1) ⟨0, by simp [lk], by simp [lk], by simp [lk, fnv, fnv0], by omega, by omega⟩ ?_
  rintro n s ⟨i, h0, h4, h3, g1, g2⟩
  by_cases hi : i < bs.length
  · obtain ⟨b, hbi⟩ : ∃ b, bs[i]? = some b := ⟨bs[i], by simp [hi]⟩
    have hw : IntKind.i64.wrap ((i : Int) + 1) = ((i + 1 : Nat) : Int) := by rw [wrap_i64 (by omega) (by omega)]; omega
    have hgx : (bs.map encB)[i]? = some (encB b) := by simp [hbi]
    simp only [encB] at hgx
    (simp -implicitDefEqProofs +contextual (maxSteps := 8000000) only [go_sem, ↓reduceIte, zn0, zn1, zn2, zn3, zn4, reduceCtorEq, zn5, zi0, zi1, zi2, zi3, zi4, zn6, zn7, zn8, zn9, envN, h0, h4, h3, hi, hw, hgx, wrapB, Option.some.injEq, forall_eq'])
    exact ⟨n - 1, by omega, i + 1, by simp [lk, h0], by simp [lk], by simp [lk, fnv_take fnv0 hbi, sstep], by omega, by omega⟩
  · (simp -implicitDefEqProofs +contextual (maxSteps := 8000000) only [go_sem, ↓reduceIte, zn0, zn1, zn2, zn3, zn4, reduceCtorEq, zn5, zi0, zi1, zi2, zi3, zi4, zn6, zn7, zn8, zn9, envN, h0, h4, h3, hi])
    rw [List.take_of_length_le (by omega)]
open Classical
noncomputable def g_frame_sum : List IV → Option IV
  | [.int .u32 h, .slice b_] => (match unBs b_ with
    | some b => if b.length ≤ 140737488351232 then some (.int .u32 (fnv h b)) else none
    | none => none)
  | _ => none
theorem g_frame_sum_is (h : Int) (b : List UInt8) : g_frame_sum [.int .u32 h, .slice (b.map encB)] = if b.length ≤ 140737488351232 then some (.int .u32 (fnv h b)) else none := by
  simp only [g_frame_sum, unBs_enc]
theorem g_frame_sum_ok : ∀ xs r, g_frame_sum xs = some r → FC Try.prog i_frame_sum xs (· = r) := by
  intro xs r h
  unfold g_frame_sum at h
  split at h
  · rename_i h b_
    split at h
    · rename_i b hb
      split at h
      · rename_i hpre
        injection h with h; subst h
        have := unBs_enc_inv hb; subst this
        exact sum_fc h b hpre
      · cases h
    · cases h
  · cases h

noncomputable def g_cartoucheref23_Sum : List IV → Option IV
  | [.slice b_] => (match unBs b_ with
    | some b => if b.length ≤ 140737488351232 then some (.int .u32 (fnv fnv0 b)) else none
    | none => none)
  | _ => none
theorem g_cartoucheref23_Sum_is (b : List UInt8) : g_cartoucheref23_Sum [.slice (b.map encB)] = if b.length ≤ 140737488351232 then some (.int .u32 (fnv fnv0 b)) else none := by
  simp only [g_cartoucheref23_Sum, unBs_enc]
theorem g_cartoucheref23_Sum_ok : ∀ xs r, g_cartoucheref23_Sum xs = some r → FC Try.prog i_cartoucheref23_Sum xs (· = r) := by
  intro xs r h
  unfold g_cartoucheref23_Sum at h
  split at h
  · rename_i b_
    split at h
    · rename_i b hb
      split at h
      · rename_i hpre
        injection h with h; subst h
        have := unBs_enc_inv hb; subst this
        exact ref_sum_fc b hpre
      · cases h
    · cases h
  · cases h

end Go.Proofs.Ytinoaofgbkdohaa.Ag
namespace Go.Proofs.Ytinoaofgbkdohaa.Ag
noncomputable def envSum : Env := { fc := [(i_frame_sum, g_frame_sum)] }
theorem envSum_ok : EnvOk Try.prog envSum := EnvOk.none.addF g_frame_sum_ok
theorem frame_Sum_fc (bs : List UInt8) (hb : bs.length ≤ 140737488351232) : FC Try.prog i_frame_Sum [.slice (bs.map encB)] (· = .int .u32 (fnv fnv0 bs)) := by
  (refine FC.vc (envSum_ok) F_frame_Sum T_frame_Sum L_frame_Sum ?_; unfold A_frame_Sum; simp only [args0, zl0, zl1, zl2, zl3, zn1])
  (simp -implicitDefEqProofs +contextual (maxSteps := 8000000) only [go_sem, ↓reduceIte, zn0, zn1, zn2, zn3, zn4, reduceCtorEq, zn5, zi0, zi1, zi2, zi3, zi4, zn6, zn7, zn8, zn9, envSum, i_frame_sum, g_frame_sum_is, hb])
  rfl
open Classical
noncomputable def g_frame_Sum : List IV → Option IV
  | [.slice b_] => (match unBs b_ with
    | some b => if b.length ≤ 140737488351232 then some (.int .u32 (fnv fnv0 b)) else none
    | none => none)
  | _ => none
theorem g_frame_Sum_is (b : List UInt8) : g_frame_Sum [.slice (b.map encB)] = if b.length ≤ 140737488351232 then some (.int .u32 (fnv fnv0 b)) else none := by
  simp only [g_frame_Sum, unBs_enc]
theorem g_frame_Sum_ok : ∀ xs r, g_frame_Sum xs = some r → FC Try.prog i_frame_Sum xs (· = r) := by
  intro xs r h
  unfold g_frame_Sum at h
  split at h
  · rename_i b_
    split at h
    · rename_i b hb
      split at h
      · rename_i hpre
        injection h with h; subst h
        have := unBs_enc_inv hb; subst this
        exact frame_Sum_fc b hpre
      · cases h
    · cases h
  · cases h

end Go.Proofs.Ytinoaofgbkdohaa.Ag
set_option maxHeartbeats 4000000
namespace Go.Proofs.Ytinoaofgbkdohaa.Ag
def sl (bs : List UInt8) (i j : Nat) : List UInt8 := (bs.drop i).take (j - i)
def stG (bs : List UInt8) (at_ : Nat) (g r : Nat × Nat × Nat) : Nat × Nat × Bool :=
  if g.2.2 ≠ 0 ∨ 65536 < g.1 ∨ g.2.1 - at_ - 1 ≠ (pvL g.1).length then (0, 0, false) else
  if r.2.2 ≠ 0 ∨ bs.length - r.2.1 < g.1 then (0, 0, false) else
  (r.2.1, r.2.1 + g.1, decide ((r.1 : Int) = fnv (fnv fnv0 (sl bs (at_ + 1) g.2.1)) (sl bs r.2.1 (r.2.1 + g.1))))
def stR (bs : List UInt8) (at_ : Nat) : Nat × Nat × Bool :=
  match bs[at_]? with
  | some b => if b.toNat = 126 then stG bs at_ (gvAt bs (at_ + 1 : Nat)) (rdAt bs (gvAt bs (at_ + 1 : Nat)).2.1 4) else (0, 0, false)
  | none => (0, 0, false)
def encST (r : Nat × Nat × Bool) : IV := .tup [.int .i64 (r.1 : Int), .int .i64 (r.2.1 : Int), .bool r.2.2]
noncomputable def envSt : Env := { fc := [(i_wire_GetVarint, g_wire_GetVarint), (i_wire_GetFix32, g_wire_GetFix32), (i_wire_Size, g_wire_Size), (i_frame_Sum, g_frame_Sum), (i_frame_sum, g_frame_sum)] }
theorem envSt_ok : EnvOk Try.prog envSt := ((((EnvOk.none.addF g_frame_sum_ok).addF g_frame_Sum_ok).addF g_wire_Size_ok).addF g_wire_GetFix32_ok).addF g_wire_GetVarint_ok
theorem cut_enc (bs : List UInt8) (i j : Nat) : cut (bs.map encB) i j = (sl bs i j).map encB := by simp [cut, sl]
theorem rdAt_ok {bs : List UInt8} {k : Int} {h f : Nat} (hr : rdAt bs k 4 = (h, f, 0)) : 0 ≤ k ∧ f = k.toNat + 4 ∧ f ≤ bs.length ∧ h = leN (sl bs k.toNat f) := by
  unfold rdAt at hr
  split at hr
  · split at hr
    · simp at hr
    · simp only [Prod.mk.injEq] at hr
      obtain ⟨h1, h2, _⟩ := hr
      refine ⟨by omega, by omega, by omega, ?_⟩
      rw [← h1, ← h2, sl, show k.toNat + 4 - k.toNat = 4 by omega]
  · simp at hr
theorem stands_fc (bs : List UInt8) (k : Nat) (hb : bs.length ≤ 140737488351232) (hk : k ≤ 140737488351232) : FC Try.prog i_frame_stands [.slice (bs.map encB), .int .i64 (k : Int)] (· = encST (stR bs k)) := by
  have w1 : IntKind.i64.wrap ((k : Int) + 1) = ((k + 1 : Nat) : Int) := by rw [wrap_i64 (by omega) (by omega)]; omega
  by_cases h1 : k < bs.length
  · obtain ⟨b, hbk⟩ : ∃ b, bs[k]? = some b := ⟨bs[k], by simp [h1]⟩
    have hgx : (bs.map encB)[k]? = some (encB b) := by simp [hbk]
    have h1' : ¬ bs.length ≤ k := by omega
    simp only [encB] at hgx
    by_cases h2 : b.toNat = 126
    · have h2' : (b.toNat : Int) = 126 := by omega
      rcases hg : gvAt bs ((k + 1 : Nat) : Int) with ⟨n, nx, e⟩
      have hst : stR bs k = stG bs k (n, nx, e) (rdAt bs nx 4) := by simp only [stR, hbk, h2, if_true, hg]
      have hn := gvAt_lt bs ((k + 1 : Nat) : Int)
      rw [hg] at hn
      simp only at hn
      rw [hst]
      by_cases h3 : e = 0
      · subst h3
        obtain ⟨n1, n2, n3⟩ := gvAt_next hg
        by_cases h4 : n ≤ 65536
        · have w2 : IntKind.i64.wrap ((nx : Int) - (k : Int)) = ((nx - k : Nat) : Int) := by rw [wrap_i64 (by omega) (by omega)]; omega
          have w3 : IntKind.i64.wrap (((nx - k : Nat) : Int) - 1) = ((nx - k - 1 : Nat) : Int) := by rw [wrap_i64 (by omega) (by omega)]; omega
          have w4 : IntKind.i64.wrap (n : Int) = (n : Int) := wrap_i64 (by omega) (by omega)
          have h4' : ¬ (65536 : Int) < n := by omega
          have h4'' : (n : Int) < 18446744073709551616 := by omega
          by_cases h5 : nx - k - 1 = (pvL n).length
          · rcases hr : rdAt bs (nx : Int) 4 with ⟨h, f, e2⟩
            by_cases h6 : e2 = 0
            · subst h6
              obtain ⟨_, r1, r2, r3⟩ := rdAt_ok hr
              have w5 : IntKind.i64.wrap ((bs.length : Int) - (f : Int)) = ((bs.length - f : Nat) : Int) := by rw [wrap_i64 (by omega) (by omega)]; omega
              by_cases h7 : n ≤ bs.length - f
              · have h7' : ¬ bs.length - f < n := by omega
                have w6 : IntKind.i64.wrap ((f : Int) + (n : Int)) = ((f + n : Nat) : Int) := by rw [wrap_i64 (by omega) (by omega)]; omega
                have l1 : (sl bs (k + 1) nx).length ≤ 140737488351232 := by simp [sl]; omega
                have l2 : (sl bs f (f + n)).length ≤ 140737488351232 := by simp [sl]; omega
                have k1 : k + 1 ≤ nx := by omega
                have k2 : f + n ≤ bs.length := by omega
                (refine FC.vc (envSt_ok) F_frame_stands T_frame_stands L_frame_stands ?_; unfold A_frame_stands; simp only [args0, zl0, zl1, zl2, zl3, zn1])
                (simp -implicitDefEqProofs +contextual (maxSteps := 8000000) only [go_sem, ↓reduceIte, zn0, zn1, zn2, zn3, zn4, reduceCtorEq, zn5, zi0, zi1, zi2, zi3, zi4, zn6, zn7, zn8, zn9, envSt, i_wire_GetVarint, i_wire_GetFix32, i_wire_Size, i_frame_Sum, i_frame_sum, g_wire_GetVarint_is, g_wire_GetFix32_is, g_wire_Size_is, g_frame_Sum_is, g_frame_sum_is, encGV, enc32, hb, hg, h1, h1', hgx, w1, h2', cut_enc, Option.some.injEq, forall_eq', hr, h4', h4'', h5, h7', w2, w3, w4, w5, w6, l1, l2, k1, k2, n3, Nat.le_refl, Nat.le_add_right])
                simp only [encST, stG, ne_eq, not_true_eq_false, false_or, h5, if_neg h7', show ¬ 65536 < n by omega, if_false]
              · have h7' : bs.length - f < n := by omega
                (refine FC.vc (envSt_ok) F_frame_stands T_frame_stands L_frame_stands ?_; unfold A_frame_stands; simp only [args0, zl0, zl1, zl2, zl3, zn1])
                (simp -implicitDefEqProofs +contextual (maxSteps := 8000000) only [go_sem, ↓reduceIte, zn0, zn1, zn2, zn3, zn4, reduceCtorEq, zn5, zi0, zi1, zi2, zi3, zi4, zn6, zn7, zn8, zn9, envSt, i_wire_GetVarint, i_wire_GetFix32, i_wire_Size, i_frame_Sum, i_frame_sum, g_wire_GetVarint_is, g_wire_GetFix32_is, g_wire_Size_is, g_frame_Sum_is, g_frame_sum_is, encGV, enc32, hb, hg, h1, h1', hgx, w1, h2', cut_enc, Option.some.injEq, forall_eq', hr, h4', h4'', h5, h7', w2, w3, w4, w5])
                simp [encST, stG, h5, h7']
            · (refine FC.vc (envSt_ok) F_frame_stands T_frame_stands L_frame_stands ?_; unfold A_frame_stands; simp only [args0, zl0, zl1, zl2, zl3, zn1])
              (simp -implicitDefEqProofs +contextual (maxSteps := 8000000) only [go_sem, ↓reduceIte, zn0, zn1, zn2, zn3, zn4, reduceCtorEq, zn5, zi0, zi1, zi2, zi3, zi4, zn6, zn7, zn8, zn9, envSt, i_wire_GetVarint, i_wire_GetFix32, i_wire_Size, i_frame_Sum, i_frame_sum, g_wire_GetVarint_is, g_wire_GetFix32_is, g_wire_Size_is, g_frame_Sum_is, g_frame_sum_is, encGV, enc32, hb, hg, h1, h1', hgx, w1, h2', cut_enc, Option.some.injEq, forall_eq', hr, h4', h4'', h5, h6, w2, w3, w4])
              simp [encST, stG, h6]
          · (refine FC.vc (envSt_ok) F_frame_stands T_frame_stands L_frame_stands ?_; unfold A_frame_stands; simp only [args0, zl0, zl1, zl2, zl3, zn1])
            (simp -implicitDefEqProofs +contextual (maxSteps := 8000000) only [go_sem, ↓reduceIte, zn0, zn1, zn2, zn3, zn4, reduceCtorEq, zn5, zi0, zi1, zi2, zi3, zi4, zn6, zn7, zn8, zn9, envSt, i_wire_GetVarint, i_wire_GetFix32, i_wire_Size, i_frame_Sum, i_frame_sum, g_wire_GetVarint_is, g_wire_GetFix32_is, g_wire_Size_is, g_frame_Sum_is, g_frame_sum_is, encGV, enc32, hb, hg, h1, h1', hgx, w1, h2', cut_enc, Option.some.injEq, forall_eq', h4', h4'', h5, w2, w3, w4])
            simp [encST, stG, h5]
        · have h4' : (65536 : Int) < n := by omega
          (refine FC.vc (envSt_ok) F_frame_stands T_frame_stands L_frame_stands ?_; unfold A_frame_stands; simp only [args0, zl0, zl1, zl2, zl3, zn1])
          (simp -implicitDefEqProofs +contextual (maxSteps := 8000000) only [go_sem, ↓reduceIte, zn0, zn1, zn2, zn3, zn4, reduceCtorEq, zn5, zi0, zi1, zi2, zi3, zi4, zn6, zn7, zn8, zn9, envSt, i_wire_GetVarint, i_wire_GetFix32, i_wire_Size, i_frame_Sum, i_frame_sum, g_wire_GetVarint_is, g_wire_GetFix32_is, g_wire_Size_is, g_frame_Sum_is, g_frame_sum_is, encGV, enc32, hb, hg, h1, h1', hgx, w1, h2', cut_enc, Option.some.injEq, forall_eq', h4'])
          simp [encST, stG, show 65536 < n by omega]
      · (refine FC.vc (envSt_ok) F_frame_stands T_frame_stands L_frame_stands ?_; unfold A_frame_stands; simp only [args0, zl0, zl1, zl2, zl3, zn1])
        (simp -implicitDefEqProofs +contextual (maxSteps := 8000000) only [go_sem, ↓reduceIte, zn0, zn1, zn2, zn3, zn4, reduceCtorEq, zn5, zi0, zi1, zi2, zi3, zi4, zn6, zn7, zn8, zn9, envSt, i_wire_GetVarint, i_wire_GetFix32, i_wire_Size, i_frame_Sum, i_frame_sum, g_wire_GetVarint_is, g_wire_GetFix32_is, g_wire_Size_is, g_frame_Sum_is, g_frame_sum_is, encGV, enc32, hb, hg, h1, h1', hgx, w1, h2', cut_enc, Option.some.injEq, forall_eq', h3])
        simp [encST, stG, h3]
    · have h2' : ¬ (b.toNat : Int) = 126 := by omega
      have hst : stR bs k = (0, 0, false) := by simp only [stR, hbk, h2, if_false]
      rw [hst]
      (refine FC.vc (envSt_ok) F_frame_stands T_frame_stands L_frame_stands ?_; unfold A_frame_stands; simp only [args0, zl0, zl1, zl2, zl3, zn1])
      (simp -implicitDefEqProofs +contextual (maxSteps := 8000000) only [go_sem, ↓reduceIte, zn0, zn1, zn2, zn3, zn4, reduceCtorEq, zn5, zi0, zi1, zi2, zi3, zi4, zn6, zn7, zn8, zn9, envSt, hb, h1, h1', hgx, w1, h2', h2, Option.some.injEq, forall_eq'])
      rfl
  · have hst : stR bs k = (0, 0, false) := by simp only [stR, List.getElem?_eq_none (show bs.length ≤ k by omega)]
    have h1' : bs.length ≤ k := by omega
    rw [hst]
    (refine FC.vc (envSt_ok) F_frame_stands T_frame_stands L_frame_stands ?_; unfold A_frame_stands; simp only [args0, zl0, zl1, zl2, zl3, zn1])
    (simp -implicitDefEqProofs +contextual (maxSteps := 8000000) only [go_sem, ↓reduceIte, zn0, zn1, zn2, zn3, zn4, reduceCtorEq, zn5, zi0, zi1, zi2, zi3, zi4, zn6, zn7, zn8, zn9, envSt, hb, h1, h1', w1])
    rfl
end Go.Proofs.Ytinoaofgbkdohaa.Ag
