/- What the one-step walk reads of functions' contracts. -/
import Derived.Test.YtfmeedphpcjkmaaWSplit
set_option linter.unusedVariables false
set_option linter.unusedSimpArgs false
namespace Go.Proofs.Ytfmeedphpcjkmaa.Ag
def g_cartoucheref1_GetEntry : List IV → Option IV
  | [.slice b_, .int .i64 k] => (match unBs b_ with
    | some b => if 0 ≤ k ∧ k ≤ b.length ∧ b.length ≤ 140737488351232 then some (encGE (geAt b k)) else none
    | none => none)
  | _ => none
theorem g_cartoucheref1_GetEntry_is (b : List UInt8) (k : Int) : g_cartoucheref1_GetEntry [.slice (b.map encB), .int .i64 k] = if 0 ≤ k ∧ k ≤ b.length ∧ b.length ≤ 140737488351232 then some (encGE (geAt b k)) else none := by
  simp only [g_cartoucheref1_GetEntry, unBs_enc]
theorem g_cartoucheref1_GetEntry_ok : ∀ xs r, g_cartoucheref1_GetEntry xs = some r → FC Try.prog i_cartoucheref1_GetEntry xs (· = r) := by
  intro xs r h
  unfold g_cartoucheref1_GetEntry at h
  split at h
  · rename_i b_ k
    split at h
    · rename_i b hb
      split at h
      · rename_i hpre
        injection h with h; subst h
        have := unBs_enc_inv hb; subst this
        obtain ⟨a, rfl⟩ := Int.eq_ofNat_of_zero_le hpre.1
        exact ref_getEntry_fc b a (by omega) (by omega)
      · cases h
    · cases h
  · cases h

def g_cartoucheref1_PutEntry : List IV → Option IV
  | [x_] => (match decE x_ with
    | some x => if x.n < 18446744073709551616 ∧ x.b.length ≤ 140737488351232 then some (encPT (peS x)) else none
    | none => none)
  | _ => none
theorem g_cartoucheref1_PutEntry_is (x : Ent) : g_cartoucheref1_PutEntry [encE x] = if x.n < 18446744073709551616 ∧ x.b.length ≤ 140737488351232 then some (encPT (peS x)) else none := by
  simp only [g_cartoucheref1_PutEntry, decE_enc]
theorem g_cartoucheref1_PutEntry_ok : ∀ xs r, g_cartoucheref1_PutEntry xs = some r → FC Try.prog i_cartoucheref1_PutEntry xs (· = r) := by
  intro xs r h
  unfold g_cartoucheref1_PutEntry at h
  split at h
  · rename_i x_
    split at h
    · rename_i x hx
      split at h
      · rename_i hpre
        injection h with h; subst h
        have := decE_enc_inv hx; subst this
        exact ref_putEntry_fc x hpre.1 hpre.2
      · cases h
    · cases h
  · cases h

def g_wire_Split : List IV → Option IV
  | [.slice b_] => (match unBs b_ with
    | some b => if b.length ≤ 100000000000 then some (encSL (spL b)) else none
    | none => none)
  | _ => none
theorem g_wire_Split_is (b : List UInt8) : g_wire_Split [.slice (b.map encB)] = if b.length ≤ 100000000000 then some (encSL (spL b)) else none := by
  simp only [g_wire_Split, unBs_enc]
theorem g_wire_Split_ok : ∀ xs r, g_wire_Split xs = some r → FC Try.prog i_wire_Split xs (· = r) := by
  intro xs r h
  unfold g_wire_Split at h
  split at h
  · rename_i b_
    split at h
    · rename_i b hb
      split at h
      · rename_i hpre
        injection h with h; subst h
        have := unBs_enc_inv hb; subst this
        exact split_fc b hpre
      · cases h
    · cases h
  · cases h

end Go.Proofs.Ytfmeedphpcjkmaa.Ag
