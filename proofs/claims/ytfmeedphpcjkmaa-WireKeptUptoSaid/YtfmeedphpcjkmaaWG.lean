/- What the one-step walk reads of functions' contracts. -/
import Derived.Test.YtfmeedphpcjkmaaAgX
import Derived.Test.YtfmeedphpcjkmaaWTagO
import Derived.Test.YtfmeedphpcjkmaaWRead
set_option linter.unusedVariables false
set_option linter.unusedSimpArgs false
namespace Go.Proofs.Ytfmeedphpcjkmaa.Ag
def g_wire_isKind : List IV → Option IV
  | [.int .i64 k] => some (.bool (isK k))
  | _ => none
theorem g_wire_isKind_is (k : Int) : g_wire_isKind [.int .i64 k] = some (.bool (isK k)) := by
  simp only [g_wire_isKind]
theorem g_wire_isKind_ok : ∀ xs r, g_wire_isKind xs = some r → FC Try.prog i_wire_isKind xs (· = r) := by
  intro xs r h
  unfold g_wire_isKind at h
  split at h
  · rename_i k
    injection h with h; subst h
    exact isKind_fc k
  · cases h

def g_cartoucheref1_IsKind : List IV → Option IV
  | [.int .i64 k] => some (.bool (isK k))
  | _ => none
theorem g_cartoucheref1_IsKind_is (k : Int) : g_cartoucheref1_IsKind [.int .i64 k] = some (.bool (isK k)) := by
  simp only [g_cartoucheref1_IsKind]
theorem g_cartoucheref1_IsKind_ok : ∀ xs r, g_cartoucheref1_IsKind xs = some r → FC Try.prog i_cartoucheref1_IsKind xs (· = r) := by
  intro xs r h
  unfold g_cartoucheref1_IsKind at h
  split at h
  · rename_i k
    injection h with h; subst h
    exact ref_isKind_fc k
  · cases h

def g_wire_GetVarint : List IV → Option IV
  | [.slice b_, .int .i64 k] => (match unBs b_ with
    | some b => if b.length ≤ 140737488351232 then some (encGV (gvAt b k)) else none
    | none => none)
  | _ => none
theorem g_wire_GetVarint_is (b : List UInt8) (k : Int) : g_wire_GetVarint [.slice (b.map encB), .int .i64 k] = if b.length ≤ 140737488351232 then some (encGV (gvAt b k)) else none := by
  simp only [g_wire_GetVarint, unBs_enc]
theorem g_wire_GetVarint_ok : ∀ xs r, g_wire_GetVarint xs = some r → FC Try.prog i_wire_GetVarint xs (· = r) := by
  intro xs r h
  unfold g_wire_GetVarint at h
  split at h
  · rename_i b_ k
    split at h
    · rename_i b hb
      split at h
      · rename_i hpre
        injection h with h; subst h
        have := unBs_enc_inv hb; subst this
        exact getVarint_fc b k (by omega)
      · cases h
    · cases h
  · cases h

def g_cartoucheref1_GetVarint : List IV → Option IV
  | [.slice b_, .int .i64 k] => (match unBs b_ with
    | some b => if 0 ≤ k ∧ k ≤ b.length ∧ b.length ≤ 140737488351232 then some (encGV (gvAt b k)) else none
    | none => none)
  | _ => none
theorem g_cartoucheref1_GetVarint_is (b : List UInt8) (k : Int) : g_cartoucheref1_GetVarint [.slice (b.map encB), .int .i64 k] = if 0 ≤ k ∧ k ≤ b.length ∧ b.length ≤ 140737488351232 then some (encGV (gvAt b k)) else none := by
  simp only [g_cartoucheref1_GetVarint, unBs_enc]
theorem g_cartoucheref1_GetVarint_ok : ∀ xs r, g_cartoucheref1_GetVarint xs = some r → FC Try.prog i_cartoucheref1_GetVarint xs (· = r) := by
  intro xs r h
  unfold g_cartoucheref1_GetVarint at h
  split at h
  · rename_i b_ k
    split at h
    · rename_i b hb
      split at h
      · rename_i hpre
        injection h with h; subst h
        have := unBs_enc_inv hb; subst this
        obtain ⟨a, rfl⟩ := Int.eq_ofNat_of_zero_le hpre.1
        exact ref_getVarint_fc b a (by omega) (by omega)
      · cases h
    · cases h
  · cases h

def g_wire_Size : List IV → Option IV
  | [.int .u64 n] => if 0 ≤ n ∧ n < 18446744073709551616 then some (.int .i64 ((pvL n.toNat).length : Int)) else none
  | _ => none
theorem g_wire_Size_is (n : Int) : g_wire_Size [.int .u64 n] = if 0 ≤ n ∧ n < 18446744073709551616 then some (.int .i64 ((pvL n.toNat).length : Int)) else none := by
  simp only [g_wire_Size]
theorem g_wire_Size_ok : ∀ xs r, g_wire_Size xs = some r → FC Try.prog i_wire_Size xs (· = r) := by
  intro xs r h
  unfold g_wire_Size at h
  split at h
  · rename_i n
    split at h
    · rename_i hpre
      injection h with h; subst h
      obtain ⟨m, rfl⟩ := Int.eq_ofNat_of_zero_le hpre.1
      exact size_fc m (by omega)
    · cases h
  · cases h

def g_wire_PutVarint : List IV → Option (Nat × Nat × List IV × List IV)
  | [.int .u64 n] => if 0 ≤ n ∧ n < 18446744073709551616 then some (5, 1, (pvL n.toNat).map encB, []) else none
  | _ => none
theorem g_wire_PutVarint_is (n : Int) : g_wire_PutVarint [.int .u64 n] = if 0 ≤ n ∧ n < 18446744073709551616 then some (5, 1, (pvL n.toNat).map encB, []) else none := by
  simp only [g_wire_PutVarint]
theorem g_wire_PutVarint_ok : ∀ xs e sz zs rets, g_wire_PutVarint xs = some (e, sz, zs, rets) → OC Try.prog i_wire_PutVarint xs e sz zs rets := by
  intro xs e sz zs rets h
  unfold g_wire_PutVarint at h
  split at h
  · rename_i n
    split at h
    · rename_i hpre
      simp only [Option.some.injEq, Prod.mk.injEq] at h
      obtain ⟨rfl, rfl, rfl, rfl⟩ := h
      obtain ⟨m, rfl⟩ := Int.eq_ofNat_of_zero_le hpre.1
      exact putVarint_oc m (by omega)
    · cases h
  · cases h

def g_cartoucheref1_PutVarint : List IV → Option (Nat × Nat × List IV × List IV)
  | [.int .u64 n] => if 0 ≤ n ∧ n < 18446744073709551616 then some (5, 1, (pvL n.toNat).map encB, []) else none
  | _ => none
theorem g_cartoucheref1_PutVarint_is (n : Int) : g_cartoucheref1_PutVarint [.int .u64 n] = if 0 ≤ n ∧ n < 18446744073709551616 then some (5, 1, (pvL n.toNat).map encB, []) else none := by
  simp only [g_cartoucheref1_PutVarint]
theorem g_cartoucheref1_PutVarint_ok : ∀ xs e sz zs rets, g_cartoucheref1_PutVarint xs = some (e, sz, zs, rets) → OC Try.prog i_cartoucheref1_PutVarint xs e sz zs rets := by
  intro xs e sz zs rets h
  unfold g_cartoucheref1_PutVarint at h
  split at h
  · rename_i n
    split at h
    · rename_i hpre
      simp only [Option.some.injEq, Prod.mk.injEq] at h
      obtain ⟨rfl, rfl, rfl, rfl⟩ := h
      obtain ⟨m, rfl⟩ := Int.eq_ofNat_of_zero_le hpre.1
      exact ref_putVarint_oc m (by omega)
    · cases h
  · cases h

def g_wire_varint (e sz : Nat) (xs : List IV) : List IV → Option (List IV)
  | [.int .u64 n] => if e = 5 ∧ sz = 1 ∧ 0 ≤ n ∧ n < 18446744073709551616 ∧ xs.length ≤ 140737488355318 then some (xs ++ (pvL n.toNat).map encB) else none
  | _ => none
theorem g_wire_varint_is (e sz : Nat) (xs : List IV) (n : Int) : g_wire_varint e sz xs [.int .u64 n] = if e = 5 ∧ sz = 1 ∧ 0 ≤ n ∧ n < 18446744073709551616 ∧ xs.length ≤ 140737488355318 then some (xs ++ (pvL n.toNat).map encB) else none := by
  simp only [g_wire_varint]
theorem g_wire_varint_ok : ∀ e sz xs ys zs, g_wire_varint e sz xs ys = some zs → LC Try.prog i_wire_varint e sz xs ys (· = zs) := by
  intro e sz xs ys zs h
  unfold g_wire_varint at h
  split at h
  · rename_i n
    split at h
    · rename_i hpre
      injection h with h; subst h
      obtain ⟨rfl, rfl, h0, h1, h2⟩ := hpre
      obtain ⟨m, rfl⟩ := Int.eq_ofNat_of_zero_le h0
      exact varint_lc 5 rfl xs m (by omega) h2
    · cases h
  · cases h

def g_wire_word : List IV → Option IV
  | [.int .u64 n, .int .i64 s] => if 0 ≤ n ∧ n < 18446744073709551616 ∧ 0 ≤ s ∧ s ≤ 8 then some (.slice ((wdL n.toNat s.toNat).map encB)) else none
  | _ => none
theorem g_wire_word_is (n : Int) (s : Int) : g_wire_word [.int .u64 n, .int .i64 s] = if 0 ≤ n ∧ n < 18446744073709551616 ∧ 0 ≤ s ∧ s ≤ 8 then some (.slice ((wdL n.toNat s.toNat).map encB)) else none := by
  simp only [g_wire_word]
theorem g_wire_word_ok : ∀ xs r, g_wire_word xs = some r → FC Try.prog i_wire_word xs (· = r) := by
  intro xs r h
  unfold g_wire_word at h
  split at h
  · rename_i n s
    split at h
    · rename_i hpre
      injection h with h; subst h
      obtain ⟨m, rfl⟩ := Int.eq_ofNat_of_zero_le hpre.1
      obtain ⟨t, rfl⟩ := Int.eq_ofNat_of_zero_le hpre.2.2.1
      exact word_fc m (by omega) t (by omega)
    · cases h
  · cases h

def g_cartoucheref1_PutWord : List IV → Option IV
  | [.int .u64 n, .int .i64 s] => if 0 ≤ n ∧ n < 18446744073709551616 ∧ 0 < s ∧ s ≤ 8 then some (.slice ((wdL n.toNat s.toNat).map encB)) else none
  | _ => none
theorem g_cartoucheref1_PutWord_is (n : Int) (s : Int) : g_cartoucheref1_PutWord [.int .u64 n, .int .i64 s] = if 0 ≤ n ∧ n < 18446744073709551616 ∧ 0 < s ∧ s ≤ 8 then some (.slice ((wdL n.toNat s.toNat).map encB)) else none := by
  simp only [g_cartoucheref1_PutWord]
theorem g_cartoucheref1_PutWord_ok : ∀ xs r, g_cartoucheref1_PutWord xs = some r → FC Try.prog i_cartoucheref1_PutWord xs (· = r) := by
  intro xs r h
  unfold g_cartoucheref1_PutWord at h
  split at h
  · rename_i n s
    split at h
    · rename_i hpre
      injection h with h; subst h
      obtain ⟨m, rfl⟩ := Int.eq_ofNat_of_zero_le hpre.1
      obtain ⟨t, rfl⟩ := Int.eq_ofNat_of_zero_le (by omega : 0 ≤ s)
      exact ref_putWord_fc m (by omega) t (by omega) (by omega)
    · cases h
  · cases h

def g_wire_PutChunk : List IV → Option IV
  | [.slice b_] => (match unBs b_ with
    | some b => if b.length ≤ 140737488351232 then some (.slice ((pcL b).map encB)) else none
    | none => none)
  | _ => none
theorem g_wire_PutChunk_is (b : List UInt8) : g_wire_PutChunk [.slice (b.map encB)] = if b.length ≤ 140737488351232 then some (.slice ((pcL b).map encB)) else none := by
  simp only [g_wire_PutChunk, unBs_enc]
theorem g_wire_PutChunk_ok : ∀ xs r, g_wire_PutChunk xs = some r → FC Try.prog i_wire_PutChunk xs (· = r) := by
  intro xs r h
  unfold g_wire_PutChunk at h
  split at h
  · rename_i b_
    split at h
    · rename_i b hb
      split at h
      · rename_i hpre
        injection h with h; subst h
        have := unBs_enc_inv hb; subst this
        exact putChunk_fc b hpre
      · cases h
    · cases h
  · cases h

def g_cartoucheref1_PutChunk : List IV → Option IV
  | [.slice b_] => (match unBs b_ with
    | some b => if b.length ≤ 140737488351232 then some (.slice ((pcL b).map encB)) else none
    | none => none)
  | _ => none
theorem g_cartoucheref1_PutChunk_is (b : List UInt8) : g_cartoucheref1_PutChunk [.slice (b.map encB)] = if b.length ≤ 140737488351232 then some (.slice ((pcL b).map encB)) else none := by
  simp only [g_cartoucheref1_PutChunk, unBs_enc]
theorem g_cartoucheref1_PutChunk_ok : ∀ xs r, g_cartoucheref1_PutChunk xs = some r → FC Try.prog i_cartoucheref1_PutChunk xs (· = r) := by
  intro xs r h
  unfold g_cartoucheref1_PutChunk at h
  split at h
  · rename_i b_
    split at h
    · rename_i b hb
      split at h
      · rename_i hpre
        injection h with h; subst h
        have := unBs_enc_inv hb; subst this
        exact ref_putChunk_fc b hpre
      · cases h
    · cases h
  · cases h

def g_wire_GetTag : List IV → Option IV
  | [.slice b_, .int .i64 k] => (match unBs b_ with
    | some b => if b.length ≤ 140737488351232 then some (encGT (gtAt b k)) else none
    | none => none)
  | _ => none
theorem g_wire_GetTag_is (b : List UInt8) (k : Int) : g_wire_GetTag [.slice (b.map encB), .int .i64 k] = if b.length ≤ 140737488351232 then some (encGT (gtAt b k)) else none := by
  simp only [g_wire_GetTag, unBs_enc]
theorem g_wire_GetTag_ok : ∀ xs r, g_wire_GetTag xs = some r → FC Try.prog i_wire_GetTag xs (· = r) := by
  intro xs r h
  unfold g_wire_GetTag at h
  split at h
  · rename_i b_ k
    split at h
    · rename_i b hb
      split at h
      · rename_i hpre
        injection h with h; subst h
        have := unBs_enc_inv hb; subst this
        exact getTag_fc b k (by omega)
      · cases h
    · cases h
  · cases h

def g_cartoucheref1_GetTag : List IV → Option IV
  | [.slice b_, .int .i64 k] => (match unBs b_ with
    | some b => if 0 ≤ k ∧ k ≤ b.length ∧ b.length ≤ 140737488351232 then some (encGT (gtAt b k)) else none
    | none => none)
  | _ => none
theorem g_cartoucheref1_GetTag_is (b : List UInt8) (k : Int) : g_cartoucheref1_GetTag [.slice (b.map encB), .int .i64 k] = if 0 ≤ k ∧ k ≤ b.length ∧ b.length ≤ 140737488351232 then some (encGT (gtAt b k)) else none := by
  simp only [g_cartoucheref1_GetTag, unBs_enc]
theorem g_cartoucheref1_GetTag_ok : ∀ xs r, g_cartoucheref1_GetTag xs = some r → FC Try.prog i_cartoucheref1_GetTag xs (· = r) := by
  intro xs r h
  unfold g_cartoucheref1_GetTag at h
  split at h
  · rename_i b_ k
    split at h
    · rename_i b hb
      split at h
      · rename_i hpre
        injection h with h; subst h
        have := unBs_enc_inv hb; subst this
        obtain ⟨a, rfl⟩ := Int.eq_ofNat_of_zero_le hpre.1
        exact ref_getTag_fc b a (by omega) (by omega)
      · cases h
    · cases h
  · cases h

def g_wire_read : List IV → Option IV
  | [.slice b_, .int .i64 k, .int .i64 s] => (match unBs b_ with
    | some b => if b.length ≤ 140737488351232 ∧ 0 ≤ s ∧ s ≤ 8 then some (encGV (rdAt b k s.toNat)) else none
    | none => none)
  | _ => none
theorem g_wire_read_is (b : List UInt8) (k : Int) (s : Int) : g_wire_read [.slice (b.map encB), .int .i64 k, .int .i64 s] = if b.length ≤ 140737488351232 ∧ 0 ≤ s ∧ s ≤ 8 then some (encGV (rdAt b k s.toNat)) else none := by
  simp only [g_wire_read, unBs_enc]
theorem g_wire_read_ok : ∀ xs r, g_wire_read xs = some r → FC Try.prog i_wire_read xs (· = r) := by
  intro xs r h
  unfold g_wire_read at h
  split at h
  · rename_i b_ k s
    split at h
    · rename_i b hb
      split at h
      · rename_i hpre
        injection h with h; subst h
        have := unBs_enc_inv hb; subst this
        obtain ⟨t, rfl⟩ := Int.eq_ofNat_of_zero_le hpre.2.1
        exact read_fc b k t (by omega) (by omega)
      · cases h
    · cases h
  · cases h

def g_cartoucheref1_Word : List IV → Option IV
  | [.slice b_, .int .i64 k, .int .i64 s] => (match unBs b_ with
    | some b => if 0 ≤ k ∧ k ≤ b.length ∧ b.length ≤ 140737488351232 ∧ 0 ≤ s ∧ s ≤ 8 then some (encGV (rdAt b k s.toNat)) else none
    | none => none)
  | _ => none
theorem g_cartoucheref1_Word_is (b : List UInt8) (k : Int) (s : Int) : g_cartoucheref1_Word [.slice (b.map encB), .int .i64 k, .int .i64 s] = if 0 ≤ k ∧ k ≤ b.length ∧ b.length ≤ 140737488351232 ∧ 0 ≤ s ∧ s ≤ 8 then some (encGV (rdAt b k s.toNat)) else none := by
  simp only [g_cartoucheref1_Word, unBs_enc]
theorem g_cartoucheref1_Word_ok : ∀ xs r, g_cartoucheref1_Word xs = some r → FC Try.prog i_cartoucheref1_Word xs (· = r) := by
  intro xs r h
  unfold g_cartoucheref1_Word at h
  split at h
  · rename_i b_ k s
    split at h
    · rename_i b hb
      split at h
      · rename_i hpre
        injection h with h; subst h
        have := unBs_enc_inv hb; subst this
        obtain ⟨a, rfl⟩ := Int.eq_ofNat_of_zero_le hpre.1
        obtain ⟨t, rfl⟩ := Int.eq_ofNat_of_zero_le hpre.2.2.2.1
        exact ref_word_fc b a (by omega) t (by omega) (by omega)
      · cases h
    · cases h
  · cases h

def g_wire_GetChunk : List IV → Option IV
  | [.slice b_, .int .i64 k] => (match unBs b_ with
    | some b => if b.length ≤ 140737488351232 then some (encGC (gcAt b k)) else none
    | none => none)
  | _ => none
theorem g_wire_GetChunk_is (b : List UInt8) (k : Int) : g_wire_GetChunk [.slice (b.map encB), .int .i64 k] = if b.length ≤ 140737488351232 then some (encGC (gcAt b k)) else none := by
  simp only [g_wire_GetChunk, unBs_enc]
theorem g_wire_GetChunk_ok : ∀ xs r, g_wire_GetChunk xs = some r → FC Try.prog i_wire_GetChunk xs (· = r) := by
  intro xs r h
  unfold g_wire_GetChunk at h
  split at h
  · rename_i b_ k
    split at h
    · rename_i b hb
      split at h
      · rename_i hpre
        injection h with h; subst h
        have := unBs_enc_inv hb; subst this
        exact getChunk_fc b k hpre
      · cases h
    · cases h
  · cases h

def g_cartoucheref1_GetChunk : List IV → Option IV
  | [.slice b_, .int .i64 k] => (match unBs b_ with
    | some b => if 0 ≤ k ∧ k ≤ b.length ∧ b.length ≤ 140737488351232 then some (encGC (gcAt b k)) else none
    | none => none)
  | _ => none
theorem g_cartoucheref1_GetChunk_is (b : List UInt8) (k : Int) : g_cartoucheref1_GetChunk [.slice (b.map encB), .int .i64 k] = if 0 ≤ k ∧ k ≤ b.length ∧ b.length ≤ 140737488351232 then some (encGC (gcAt b k)) else none := by
  simp only [g_cartoucheref1_GetChunk, unBs_enc]
theorem g_cartoucheref1_GetChunk_ok : ∀ xs r, g_cartoucheref1_GetChunk xs = some r → FC Try.prog i_cartoucheref1_GetChunk xs (· = r) := by
  intro xs r h
  unfold g_cartoucheref1_GetChunk at h
  split at h
  · rename_i b_ k
    split at h
    · rename_i b hb
      split at h
      · rename_i hpre
        injection h with h; subst h
        have := unBs_enc_inv hb; subst this
        obtain ⟨a, rfl⟩ := Int.eq_ofNat_of_zero_le hpre.1
        exact ref_getChunk_fc b a (by omega) (by omega)
      · cases h
    · cases h
  · cases h

def g_cartouchelaw1_same : List IV → Option IV
  | [.slice a_, .slice b_] => (match unBs a_ with
    | some a => (match unBs b_ with
    | some b => some (.bool (decide (a = b)))
    | none => none)
    | none => none)
  | _ => none
theorem g_cartouchelaw1_same_is (a : List UInt8) (b : List UInt8) : g_cartouchelaw1_same [.slice (a.map encB), .slice (b.map encB)] = some (.bool (decide (a = b))) := by
  simp only [g_cartouchelaw1_same, unBs_enc, unBs_enc]
theorem g_cartouchelaw1_same_ok : ∀ xs r, g_cartouchelaw1_same xs = some r → FC Try.prog i_cartouchelaw1_same xs (· = r) := by
  intro xs r h
  unfold g_cartouchelaw1_same at h
  split at h
  · rename_i a_ b_
    split at h
    · rename_i a ha
      split at h
      · rename_i b hb
        injection h with h; subst h
        have := unBs_enc_inv ha; subst this
        have := unBs_enc_inv hb; subst this
        exact same_fc a b
      · cases h
    · cases h
  · cases h

def g_cartouchelaw1_awake : List IV → Option IV
  | [] => some (.bool true)
  | _ => none
theorem g_cartouchelaw1_awake_is  : g_cartouchelaw1_awake [] = some (.bool true) := by
  simp only [g_cartouchelaw1_awake]
theorem g_cartouchelaw1_awake_ok : ∀ xs r, g_cartouchelaw1_awake xs = some r → FC Try.prog i_cartouchelaw1_awake xs (· = r) := by
  intro xs r h
  unfold g_cartouchelaw1_awake at h
  split at h
  · skip
    injection h with h; subst h
    exact awake_fc
  · cases h

def g_wire_ZigZag : List IV → Option IV
  | [.int .i64 n] => if -9223372036854775808 ≤ n ∧ n < 9223372036854775808 then some (.int .u64 (zz n)) else none
  | _ => none
theorem g_wire_ZigZag_is (n : Int) : g_wire_ZigZag [.int .i64 n] = if -9223372036854775808 ≤ n ∧ n < 9223372036854775808 then some (.int .u64 (zz n)) else none := by
  simp only [g_wire_ZigZag]
theorem g_wire_ZigZag_ok : ∀ xs r, g_wire_ZigZag xs = some r → FC Try.prog i_wire_ZigZag xs (· = r) := by
  intro xs r h
  unfold g_wire_ZigZag at h
  split at h
  · rename_i n
    split at h
    · rename_i hpre
      injection h with h; subst h
      exact zigzag_fc n hpre.1 hpre.2
    · cases h
  · cases h

def g_wire_ZagZig : List IV → Option IV
  | [.int .u64 n] => if 0 ≤ n ∧ n < 18446744073709551616 then some (.int .i64 (zag n)) else none
  | _ => none
theorem g_wire_ZagZig_is (n : Int) : g_wire_ZagZig [.int .u64 n] = if 0 ≤ n ∧ n < 18446744073709551616 then some (.int .i64 (zag n)) else none := by
  simp only [g_wire_ZagZig]
theorem g_wire_ZagZig_ok : ∀ xs r, g_wire_ZagZig xs = some r → FC Try.prog i_wire_ZagZig xs (· = r) := by
  intro xs r h
  unfold g_wire_ZagZig at h
  split at h
  · rename_i n
    split at h
    · rename_i hpre
      injection h with h; subst h
      obtain ⟨m, rfl⟩ := Int.eq_ofNat_of_zero_le hpre.1
      exact zagzig_fc m (by omega)
    · cases h
  · cases h

end Go.Proofs.Ytfmeedphpcjkmaa.Ag
