/- What the one-step walk reads of functions' contracts. -/
import Derived.Test.YtinoaofgbkdohaaAgXX
import Derived.Test.YtinoaofgbkdohaaZW
set_option linter.unusedVariables false
set_option linter.unusedSimpArgs false
namespace Go.Proofs.Ytinoaofgbkdohaa.Ag
open Classical
noncomputable def g_wire_GetVarint : List IV → Option IV
  | [.slice b_, .int .i64 k] => (match unBs b_ with
    | some b => if b.length ≤ 140737488351232 then some (encGV (gvAt b k)) else none
    | none => none)
  | _ => none
theorem g_wire_GetVarint_is (b : List UInt8) (k : Int) : g_wire_GetVarint [.slice (b.map encB), .int .i64 k] = if b.length ≤ 140737488351232 then some (encGV (gvAt b k)) else none := by
  simp only [g_wire_GetVarint, unBs_enc]
theorem g_wire_GetVarint_ok : ∀ xs r, g_wire_GetVarint xs = some r → FC Try.prog i_wire_GetVarint xs (· = r) := by
  intro xs r h
  unfold g_wire_GetVarint at h
  split at h
  · rename_i b_ k
    split at h
    · rename_i b hb
      split at h
      · rename_i hpre
        injection h with h; subst h
        have := unBs_enc_inv hb; subst this
        exact getVarint_fc b k (by omega)
      · cases h
    · cases h
  · cases h

noncomputable def g_cartoucheref1_GetVarint : List IV → Option IV
  | [.slice b_, .int .i64 k] => (match unBs b_ with
    | some b => if 0 ≤ k ∧ k ≤ b.length ∧ b.length ≤ 140737488351232 then some (encGV (gvAt b k)) else none
    | none => none)
  | _ => none
theorem g_cartoucheref1_GetVarint_is (b : List UInt8) (k : Int) : g_cartoucheref1_GetVarint [.slice (b.map encB), .int .i64 k] = if 0 ≤ k ∧ k ≤ b.length ∧ b.length ≤ 140737488351232 then some (encGV (gvAt b k)) else none := by
  simp only [g_cartoucheref1_GetVarint, unBs_enc]
theorem g_cartoucheref1_GetVarint_ok : ∀ xs r, g_cartoucheref1_GetVarint xs = some r → FC Try.prog i_cartoucheref1_GetVarint xs (· = r) := by
  intro xs r h
  unfold g_cartoucheref1_GetVarint at h
  split at h
  · rename_i b_ k
    split at h
    · rename_i b hb
      split at h
      · rename_i hpre
        injection h with h; subst h
        have := unBs_enc_inv hb; subst this
        obtain ⟨a, rfl⟩ := Int.eq_ofNat_of_zero_le hpre.1
        exact ref_getVarint_fc b a (by omega) (by omega)
      · cases h
    · cases h
  · cases h

noncomputable def g_wire_Size : List IV → Option IV
  | [.int .u64 n] => if 0 ≤ n ∧ n < 18446744073709551616 then some (.int .i64 ((pvL n.toNat).length : Int)) else none
  | _ => none
theorem g_wire_Size_is (n : Int) : g_wire_Size [.int .u64 n] = if 0 ≤ n ∧ n < 18446744073709551616 then some (.int .i64 ((pvL n.toNat).length : Int)) else none := by
  simp only [g_wire_Size]
theorem g_wire_Size_ok : ∀ xs r, g_wire_Size xs = some r → FC Try.prog i_wire_Size xs (· = r) := by
  intro xs r h
  unfold g_wire_Size at h
  split at h
  · rename_i n
    split at h
    · rename_i hpre
      injection h with h; subst h
      obtain ⟨m, rfl⟩ := Int.eq_ofNat_of_zero_le hpre.1
      exact size_fc m (by omega)
    · cases h
  · cases h

noncomputable def g_wire_PutVarint : List IV → Option (Nat × Nat × List IV × List IV)
  | [.int .u64 n] => if 0 ≤ n ∧ n < 18446744073709551616 then some (5, 1, (pvL n.toNat).map encB, []) else none
  | _ => none
theorem g_wire_PutVarint_is (n : Int) : g_wire_PutVarint [.int .u64 n] = if 0 ≤ n ∧ n < 18446744073709551616 then some (5, 1, (pvL n.toNat).map encB, []) else none := by
  simp only [g_wire_PutVarint]
theorem g_wire_PutVarint_ok : ∀ xs e sz zs rets, g_wire_PutVarint xs = some (e, sz, zs, rets) → OC Try.prog i_wire_PutVarint xs e sz zs rets := by
  intro xs e sz zs rets h
  unfold g_wire_PutVarint at h
  split at h
  · rename_i n
    split at h
    · rename_i hpre
      simp only [Option.some.injEq, Prod.mk.injEq] at h
      obtain ⟨rfl, rfl, rfl, rfl⟩ := h
      obtain ⟨m, rfl⟩ := Int.eq_ofNat_of_zero_le hpre.1
      exact putVarint_oc m (by omega)
    · cases h
  · cases h

noncomputable def g_cartoucheref1_PutVarint : List IV → Option (Nat × Nat × List IV × List IV)
  | [.int .u64 n] => if 0 ≤ n ∧ n < 18446744073709551616 then some (5, 1, (pvL n.toNat).map encB, []) else none
  | _ => none
theorem g_cartoucheref1_PutVarint_is (n : Int) : g_cartoucheref1_PutVarint [.int .u64 n] = if 0 ≤ n ∧ n < 18446744073709551616 then some (5, 1, (pvL n.toNat).map encB, []) else none := by
  simp only [g_cartoucheref1_PutVarint]
theorem g_cartoucheref1_PutVarint_ok : ∀ xs e sz zs rets, g_cartoucheref1_PutVarint xs = some (e, sz, zs, rets) → OC Try.prog i_cartoucheref1_PutVarint xs e sz zs rets := by
  intro xs e sz zs rets h
  unfold g_cartoucheref1_PutVarint at h
  split at h
  · rename_i n
    split at h
    · rename_i hpre
      simp only [Option.some.injEq, Prod.mk.injEq] at h
      obtain ⟨rfl, rfl, rfl, rfl⟩ := h
      obtain ⟨m, rfl⟩ := Int.eq_ofNat_of_zero_le hpre.1
      exact ref_putVarint_oc m (by omega)
    · cases h
  · cases h

noncomputable def g_cartoucheref1_PutWord : List IV → Option IV
  | [.int .u64 n, .int .i64 s] => if 0 ≤ n ∧ n < 18446744073709551616 ∧ 0 < s ∧ s ≤ 8 then some (.slice ((wdL n.toNat s.toNat).map encB)) else none
  | _ => none
theorem g_cartoucheref1_PutWord_is (n : Int) (s : Int) : g_cartoucheref1_PutWord [.int .u64 n, .int .i64 s] = if 0 ≤ n ∧ n < 18446744073709551616 ∧ 0 < s ∧ s ≤ 8 then some (.slice ((wdL n.toNat s.toNat).map encB)) else none := by
  simp only [g_cartoucheref1_PutWord]
theorem g_cartoucheref1_PutWord_ok : ∀ xs r, g_cartoucheref1_PutWord xs = some r → FC Try.prog i_cartoucheref1_PutWord xs (· = r) := by
  intro xs r h
  unfold g_cartoucheref1_PutWord at h
  split at h
  · rename_i n s
    split at h
    · rename_i hpre
      injection h with h; subst h
      obtain ⟨m, rfl⟩ := Int.eq_ofNat_of_zero_le hpre.1
      obtain ⟨t, rfl⟩ := Int.eq_ofNat_of_zero_le (by omega : 0 ≤ s)
      exact ref_putWord_fc m (by omega) t (by omega) (by omega)
    · cases h
  · cases h

noncomputable def g_wire_PutFix32 : List IV → Option IV
  | [.int .u32 n] => if 0 ≤ n ∧ n < 4294967296 then some (.slice ((wdL n.toNat 4).map encB)) else none
  | _ => none
theorem g_wire_PutFix32_is (n : Int) : g_wire_PutFix32 [.int .u32 n] = if 0 ≤ n ∧ n < 4294967296 then some (.slice ((wdL n.toNat 4).map encB)) else none := by
  simp only [g_wire_PutFix32]
theorem g_wire_PutFix32_ok : ∀ xs r, g_wire_PutFix32 xs = some r → FC Try.prog i_wire_PutFix32 xs (· = r) := by
  intro xs r h
  unfold g_wire_PutFix32 at h
  split at h
  · rename_i n
    split at h
    · rename_i hpre
      injection h with h; subst h
      obtain ⟨m, rfl⟩ := Int.eq_ofNat_of_zero_le hpre.1
      exact putFix32_fc m (by omega)
    · cases h
  · cases h

noncomputable def g_wire_GetFix32 : List IV → Option IV
  | [.slice b_, .int .i64 k] => (match unBs b_ with
    | some b => if b.length ≤ 140737488351232 then some (enc32 (rdAt b k 4)) else none
    | none => none)
  | _ => none
theorem g_wire_GetFix32_is (b : List UInt8) (k : Int) : g_wire_GetFix32 [.slice (b.map encB), .int .i64 k] = if b.length ≤ 140737488351232 then some (enc32 (rdAt b k 4)) else none := by
  simp only [g_wire_GetFix32, unBs_enc]
theorem g_wire_GetFix32_ok : ∀ xs r, g_wire_GetFix32 xs = some r → FC Try.prog i_wire_GetFix32 xs (· = r) := by
  intro xs r h
  unfold g_wire_GetFix32 at h
  split at h
  · rename_i b_ k
    split at h
    · rename_i b hb
      split at h
      · rename_i hpre
        injection h with h; subst h
        have := unBs_enc_inv hb; subst this
        exact getFix32_fc b k (by omega)
      · cases h
    · cases h
  · cases h

end Go.Proofs.Ytinoaofgbkdohaa.Ag
