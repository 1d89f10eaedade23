/- What the one-step walk reads of functions' contracts. -/
import Derived.Test.YtfmeedphpcjkmaaWEnt2
set_option linter.unusedVariables false
set_option linter.unusedSimpArgs false
namespace Go.Proofs.Ytfmeedphpcjkmaa.Ag
def g_wire_PutEntry : List IV → Option IV
  | [x_] => (match decE x_ with
    | some x => if x.n < 18446744073709551616 ∧ x.b.length ≤ 140737488351232 then some (encPT (peS x)) else none
    | none => none)
  | _ => none
theorem g_wire_PutEntry_is (x : Ent) : g_wire_PutEntry [encE x] = if x.n < 18446744073709551616 ∧ x.b.length ≤ 140737488351232 then some (encPT (peS x)) else none := by
  simp only [g_wire_PutEntry, decE_enc]
theorem g_wire_PutEntry_ok : ∀ xs r, g_wire_PutEntry xs = some r → FC Try.prog i_wire_PutEntry xs (· = r) := by
  intro xs r h
  unfold g_wire_PutEntry at h
  split at h
  · rename_i x_
    split at h
    · rename_i x hx
      split at h
      · rename_i hpre
        injection h with h; subst h
        have := decE_enc_inv hx; subst this
        exact putEntry_fc x hpre.1 hpre.2
      · cases h
    · cases h
  · cases h

def g_wire_GetEntry : List IV → Option IV
  | [.slice b_, .int .i64 k] => (match unBs b_ with
    | some b => if b.length ≤ 140737488351232 then some (encGE (geAt b k)) else none
    | none => none)
  | _ => none
theorem g_wire_GetEntry_is (b : List UInt8) (k : Int) : g_wire_GetEntry [.slice (b.map encB), .int .i64 k] = if b.length ≤ 140737488351232 then some (encGE (geAt b k)) else none := by
  simp only [g_wire_GetEntry, unBs_enc]
theorem g_wire_GetEntry_ok : ∀ xs r, g_wire_GetEntry xs = some r → FC Try.prog i_wire_GetEntry xs (· = r) := by
  intro xs r h
  unfold g_wire_GetEntry at h
  split at h
  · rename_i b_ k
    split at h
    · rename_i b hb
      split at h
      · rename_i hpre
        injection h with h; subst h
        have := unBs_enc_inv hb; subst this
        exact getEntry_fc b k hpre
      · cases h
    · cases h
  · cases h

def g_cartoucheref1_Rest : List IV → Option IV
  | [.slice b_, .int .i64 a, .int .i64 num, .int .i64 kind] => (match unBs b_ with
    | some b => if 0 ≤ a ∧ a ≤ b.length ∧ b.length ≤ 140737488351232 ∧ 0 ≤ num ∧ 0 ≤ kind then some (encGE (restAt b num.toNat kind.toNat a.toNat)) else none
    | none => none)
  | _ => none
theorem g_cartoucheref1_Rest_is (b : List UInt8) (a : Int) (num : Int) (kind : Int) : g_cartoucheref1_Rest [.slice (b.map encB), .int .i64 a, .int .i64 num, .int .i64 kind] = if 0 ≤ a ∧ a ≤ b.length ∧ b.length ≤ 140737488351232 ∧ 0 ≤ num ∧ 0 ≤ kind then some (encGE (restAt b num.toNat kind.toNat a.toNat)) else none := by
  simp only [g_cartoucheref1_Rest, unBs_enc]
theorem g_cartoucheref1_Rest_ok : ∀ xs r, g_cartoucheref1_Rest xs = some r → FC Try.prog i_cartoucheref1_Rest xs (· = r) := by
  intro xs r h
  unfold g_cartoucheref1_Rest at h
  split at h
  · rename_i b_ a num kind
    split at h
    · rename_i b hb
      split at h
      · rename_i hpre
        injection h with h; subst h
        have := unBs_enc_inv hb; subst this
        obtain ⟨p, rfl⟩ := Int.eq_ofNat_of_zero_le hpre.1
        obtain ⟨q, rfl⟩ := Int.eq_ofNat_of_zero_le hpre.2.2.2.1
        obtain ⟨r, rfl⟩ := Int.eq_ofNat_of_zero_le hpre.2.2.2.2
        exact ref_rest_fc b p q r (by omega) hpre.2.2.1
      · cases h
    · cases h
  · cases h

def g_cartoucheref1_Fine : List IV → Option IV
  | [x_] => (match decE x_ with
    | some x => some (.bool (fineE x))
    | none => none)
  | _ => none
theorem g_cartoucheref1_Fine_is (x : Ent) : g_cartoucheref1_Fine [encE x] = some (.bool (fineE x)) := by
  simp only [g_cartoucheref1_Fine, decE_enc]
theorem g_cartoucheref1_Fine_ok : ∀ xs r, g_cartoucheref1_Fine xs = some r → FC Try.prog i_cartoucheref1_Fine xs (· = r) := by
  intro xs r h
  unfold g_cartoucheref1_Fine at h
  split at h
  · rename_i x_
    split at h
    · rename_i x hx
      injection h with h; subst h
      have := decE_enc_inv hx; subst this
      exact ref_fine_fc x
    · cases h
  · cases h

def g_cartoucheref1_Same : List IV → Option IV
  | [x_, y_] => (match decE x_ with
    | some x => (match decE y_ with
    | some y => some (.bool (decide (x = y)))
    | none => none)
    | none => none)
  | _ => none
theorem g_cartoucheref1_Same_is (x : Ent) (y : Ent) : g_cartoucheref1_Same [encE x, encE y] = some (.bool (decide (x = y))) := by
  simp only [g_cartoucheref1_Same, decE_enc, decE_enc]
theorem g_cartoucheref1_Same_ok : ∀ xs r, g_cartoucheref1_Same xs = some r → FC Try.prog i_cartoucheref1_Same xs (· = r) := by
  intro xs r h
  unfold g_cartoucheref1_Same at h
  split at h
  · rename_i x_ y_
    split at h
    · rename_i x hx
      split at h
      · rename_i y hy
        injection h with h; subst h
        have := decE_enc_inv hx; subst this
        have := decE_enc_inv hy; subst this
        exact same_ent_fc x y
      · cases h
    · cases h
  · cases h

def g_cartoucheref1_PutTag : List IV → Option (Nat × Nat × List IV × List IV)
  | [.int .i64 n, .int .i64 k] => some (5, 1, (ptS n k).1.map encB, [.int .i64 (ptS n k).2])
  | _ => none
theorem g_cartoucheref1_PutTag_is (n : Int) (k : Int) : g_cartoucheref1_PutTag [.int .i64 n, .int .i64 k] = some (5, 1, (ptS n k).1.map encB, [.int .i64 (ptS n k).2]) := by
  simp only [g_cartoucheref1_PutTag]
theorem g_cartoucheref1_PutTag_ok : ∀ xs e sz zs rets, g_cartoucheref1_PutTag xs = some (e, sz, zs, rets) → OC Try.prog i_cartoucheref1_PutTag xs e sz zs rets := by
  intro xs e sz zs rets h
  unfold g_cartoucheref1_PutTag at h
  split at h
  · rename_i n k
    simp only [Option.some.injEq, Prod.mk.injEq] at h
    obtain ⟨rfl, rfl, rfl, rfl⟩ := h
    exact ref_putTag_oc2 n k
  · cases h

end Go.Proofs.Ytfmeedphpcjkmaa.Ag
