/- What the one-step walk reads of functions' contracts. -/
import Derived.Test.YtfmeedphpcjkmaaWSplit2
import Derived.Test.YtfmeedphpcjkmaaWRound2
set_option linter.unusedVariables false
set_option linter.unusedSimpArgs false
namespace Go.Proofs.Ytfmeedphpcjkmaa.Ag
def g_wire_Join : List IV → Option IV
  | [x_] => (match decEs x_ with
    | some x => if okEs x = true then some (encPT (jnF x [])) else none
    | none => none)
  | _ => none
theorem g_wire_Join_is (x : Ents) : g_wire_Join [encEs x] = if okEs x = true then some (encPT (jnF x [])) else none := by
  simp only [g_wire_Join, decEs_enc]
theorem g_wire_Join_ok : ∀ xs r, g_wire_Join xs = some r → FC Try.prog i_wire_Join xs (· = r) := by
  intro xs r h
  unfold g_wire_Join at h
  split at h
  · rename_i x_
    split at h
    · rename_i x hx
      split at h
      · rename_i hpre
        injection h with h; subst h
        have := decEs_enc_inv hx; subst this
        exact join_fc x hpre
      · cases h
    · cases h
  · cases h

def g_cartoucheref1_Split : List IV → Option IV
  | [.slice b_] => (match unBs b_ with
    | some b => if b.length ≤ 100000000000 then some (encSL (spL b)) else none
    | none => none)
  | _ => none
theorem g_cartoucheref1_Split_is (b : List UInt8) : g_cartoucheref1_Split [.slice (b.map encB)] = if b.length ≤ 100000000000 then some (encSL (spL b)) else none := by
  simp only [g_cartoucheref1_Split, unBs_enc]
theorem g_cartoucheref1_Split_ok : ∀ xs r, g_cartoucheref1_Split xs = some r → FC Try.prog i_cartoucheref1_Split xs (· = r) := by
  intro xs r h
  unfold g_cartoucheref1_Split at h
  split at h
  · rename_i b_
    split at h
    · rename_i b hb
      split at h
      · rename_i hpre
        injection h with h; subst h
        have := unBs_enc_inv hb; subst this
        exact ref_split_fc b hpre
      · cases h
    · cases h
  · cases h

def g_cartoucheref1_List : List IV → Option IV
  | [x_, y_] => (match decEs x_ with
    | some x => (match decEs y_ with
    | some y => if x.length ≤ 140737488351232 then some (.bool (decide (x = y))) else none
    | none => none)
    | none => none)
  | _ => none
theorem g_cartoucheref1_List_is (x : Ents) (y : Ents) : g_cartoucheref1_List [encEs x, encEs y] = if x.length ≤ 140737488351232 then some (.bool (decide (x = y))) else none := by
  simp only [g_cartoucheref1_List, decEs_enc, decEs_enc]
theorem g_cartoucheref1_List_ok : ∀ xs r, g_cartoucheref1_List xs = some r → FC Try.prog i_cartoucheref1_List xs (· = r) := by
  intro xs r h
  unfold g_cartoucheref1_List at h
  split at h
  · rename_i x_ y_
    split at h
    · rename_i x hx
      split at h
      · rename_i y hy
        split at h
        · rename_i hpre
          injection h with h; subst h
          have := decEs_enc_inv hx; subst this
          have := decEs_enc_inv hy; subst this
          exact list_fc x y hpre
        · cases h
      · cases h
    · cases h
  · cases h

end Go.Proofs.Ytfmeedphpcjkmaa.Ag
