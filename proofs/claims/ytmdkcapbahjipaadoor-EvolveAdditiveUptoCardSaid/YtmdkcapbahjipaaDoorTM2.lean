/- Fields and enums that are good -/
import Derived.Test.YtmdkcapbahjipaaDoorTM1
set_option linter.unusedVariables false
set_option linter.unusedSimpArgs false
set_option maxRecDepth 100000
set_option maxHeartbeats 4000000
open List renaming map_cons → zl0, map_nil → zl1, zipIdx_cons → zl2, zipIdx_nil → zl3
open Nat renaming reduceEqDiff → zn0, reduceAdd → zn1, reduceSub → zn2, reduceLeDiff → zn3, reduceMul → zn4, reduceBEq → zn5, reducePow → zn6, reduceLT → zn7, reduceDiv → zn8, reduceMod → zn9
open Int renaming reduceLT → zi0, reduceLE → zi1, reduceNeg → zi2, reduceEq → zi3, reduceToNat → zi4
namespace Go.Proofs.YtmdkcapbahjipaaDoor.Ag
attribute [-go_sem] Int.not_lt Int.not_le
noncomputable def envGf : Env := { split := true, fc := [(i_table_sort, g_table_sort), (i_scalar_Numeric, g_scalar_Numeric), (i_scalar_IsKey, g_scalar_IsKey)] }
theorem envGf_ok : EnvOk Tryd.prog envGf := ((EnvOk.noneS.addF g_scalar_IsKey_ok).addF g_scalar_Numeric_ok).addF g_table_sort_ok
theorem goodField_fc (t : List Ty) (x : Ty) (f : FT) : FC Tryd.prog i_table_goodField [encTable t, encTy x, encFT f] (· = .bool (fieldB t x f)) := by
  have hso : ∀ (e : Bool), g_table_sort [.agg [.slice (t.map encTy)], .int .i64 f.ref, .bool e] = some (.bool (sortB t f.ref e)) := fun e => g_table_sort_is t f.ref e
  by_cases k1 : f.kind = 16
  · (refine FC.vc (envGf_ok) F_table_goodField T_table_goodField L_table_goodField ?_; unfold A_table_goodField; simp only [args0, zl0, zl1, zl2, zl3, zn1])
    (simp -implicitDefEqProofs +contextual (maxSteps := 8000000) only [go_sem, ↓reduceIte, zn0, zn1, zn2, zn3, zn4, reduceCtorEq, zn5, zi0, zi1, zi2, zi3, zi4, zn6, zn7, zn8, zn9, encTable, encTy, encFT, envGf, i_table_sort, i_scalar_Numeric, i_scalar_IsKey, hso, g_scalar_Numeric_is, g_scalar_IsKey_is, k1])
    clear hso
    (repeat' (first | (refine And.intro ?_ ?_) | (intro _)))
    all_goals grind (splits := 30) [fieldB]
  by_cases k2 : f.kind = 17
  · (refine FC.vc (envGf_ok) F_table_goodField T_table_goodField L_table_goodField ?_; unfold A_table_goodField; simp only [args0, zl0, zl1, zl2, zl3, zn1])
    (simp -implicitDefEqProofs +contextual (maxSteps := 8000000) only [go_sem, ↓reduceIte, zn0, zn1, zn2, zn3, zn4, reduceCtorEq, zn5, zi0, zi1, zi2, zi3, zi4, zn6, zn7, zn8, zn9, encTable, encTy, encFT, envGf, i_table_sort, i_scalar_Numeric, i_scalar_IsKey, hso, g_scalar_Numeric_is, g_scalar_IsKey_is, k1, k2])
    clear hso
    (repeat' (first | (refine And.intro ?_ ?_) | (intro _)))
    all_goals grind (splits := 30) [fieldB]
  · (refine FC.vc (envGf_ok) F_table_goodField T_table_goodField L_table_goodField ?_; unfold A_table_goodField; simp only [args0, zl0, zl1, zl2, zl3, zn1])
    (simp -implicitDefEqProofs +contextual (maxSteps := 8000000) only [go_sem, ↓reduceIte, zn0, zn1, zn2, zn3, zn4, reduceCtorEq, zn5, zi0, zi1, zi2, zi3, zi4, zn6, zn7, zn8, zn9, encTable, encTy, encFT, envGf, i_table_sort, i_scalar_Numeric, i_scalar_IsKey, hso, g_scalar_Numeric_is, g_scalar_IsKey_is, k1, k2])
    clear hso
    (repeat' (first | (refine And.intro ?_ ?_) | (intro _)))
    all_goals grind (splits := 30) [fieldB]

noncomputable def envRf : Env := { split := true, fc := [(i_cartoucheref3_Numeric, g_cartoucheref3_Numeric), (i_cartoucheref3_IsKey, g_cartoucheref3_IsKey)] }
theorem envRf_ok : EnvOk Tryd.prog envRf := (EnvOk.noneS.addF g_cartoucheref3_IsKey_ok).addF g_cartoucheref3_Numeric_ok
theorem ref7_field_fc (t : List Ty) (x : Ty) (f : FT) : FC Tryd.prog i_cartoucheref7_field [encTable t, encTy x, encFT f] (· = .bool (decide (1 ≤ f.number ∧ f.number ≤ 536870911) && fieldB t x f)) := by
  by_cases hr : 0 ≤ f.ref ∧ f.ref < t.length
  · obtain ⟨hr0, hr1⟩ := hr
    obtain ⟨y, hy⟩ : ∃ y, t[f.ref.toNat]? = some y := ⟨t[f.ref.toNat]'(by omega), by rw [List.getElem?_eq_getElem]⟩
    have hm := get_map (f := encTy) hy
    simp only [encTy] at hm
    have hso : ∀ e, sortB t f.ref e = (y.enum == e) := fun e => by simp [sortB, hr0, hy]
    have n1 : ¬ f.ref < 0 := by omega
    have n2 : ¬ (t.length : Int) ≤ f.ref := by omega
    (refine FC.vc (envRf_ok) F_cartoucheref7_field T_cartoucheref7_field L_cartoucheref7_field ?_; unfold A_cartoucheref7_field; simp only [args0, zl0, zl1, zl2, zl3, zn1])
    (simp -implicitDefEqProofs +contextual (maxSteps := 8000000) only [go_sem, ↓reduceIte, zn0, zn1, zn2, zn3, zn4, reduceCtorEq, zn5, zi0, zi1, zi2, zi3, zi4, zn6, zn7, zn8, zn9, encTable, encTy, encFT, envRf, i_cartoucheref3_Numeric, i_cartoucheref3_IsKey, g_cartoucheref3_Numeric_is, g_cartoucheref3_IsKey_is, hr0, hr1, n1, n2, hm, forall_eq'])
    clear hm
    (repeat' (first | (refine And.intro ?_ ?_) | (intro _)))
    all_goals grind (splits := 40) [fieldB]
  · have hso : ∀ e, sortB t f.ref e = false := fun e => by
      unfold sortB
      by_cases h0 : 0 ≤ f.ref
      · have : t[f.ref.toNat]? = none := by simp; omega
        simp [this]
      · simp [h0]
    (refine FC.vc (envRf_ok) F_cartoucheref7_field T_cartoucheref7_field L_cartoucheref7_field ?_; unfold A_cartoucheref7_field; simp only [args0, zl0, zl1, zl2, zl3, zn1])
    (simp -implicitDefEqProofs +contextual (maxSteps := 8000000) only [go_sem, ↓reduceIte, zn0, zn1, zn2, zn3, zn4, reduceCtorEq, zn5, zi0, zi1, zi2, zi3, zi4, zn6, zn7, zn8, zn9, encTable, encTy, encFT, envRf, i_cartoucheref3_Numeric, i_cartoucheref3_IsKey, g_cartoucheref3_Numeric_is, g_cartoucheref3_IsKey_is])
    (repeat' (first | (refine And.intro ?_ ?_) | (intro _)))
    all_goals grind (splits := 40) [fieldB]
noncomputable def envEn : Env := { split := true, fc := [(i_lex_IsName, g_lex_IsName)], gc := [(i_table_named_add, g_named_add)] }
theorem envEn_ok : EnvOk Tryd.prog envEn := (EnvOk.noneS.addF g_lex_IsName_ok).addG g_named_add_ok
def SymsOk (l : List Sym) : Prop := ∀ s ∈ l, nameB s.name = true ∧ 0 ≤ s.num ∧ s.num ≤ 2147483647
theorem SymsOk.snoc {l : List Sym} {i : Nat} {s : Sym} (h : SymsOk (l.take i)) (hs : l[i]? = some s) (h1 : nameB s.name = true) (h2 : 0 ≤ s.num) (h3 : s.num ≤ 2147483647) : SymsOk (l.take (i + 1)) := by
  rw [List.take_add_one, hs]
  intro y hy
  rcases List.mem_append.1 hy with hy | hy
  · exact h y hy
  · simp at hy; subst hy; exact ⟨h1, h2, h3⟩
theorem take_map {α β : Type} {f : α → β} {l : List α} {i : Nat} {s : α} (hs : l[i]? = some s) : (l.take (i + 1)).map f = (l.take i).map f ++ [f s] := by
  rw [List.take_add_one, hs]; simp
theorem nodup_snoc {α : Type} {l : List α} {a : α} (h : l.Nodup) (ha : a ∉ l) : (l ++ [a]).Nodup := by
  rw [List.nodup_append]
  exact ⟨h, by simp, fun x hx y hy => by rintro rfl; simp at hy; subst hy; exact ha hx⟩
theorem not_nodup {α β : Type} {f : α → β} {l : List α} {i : Nat} {s : α} (hs : l[i]? = some s) (h : f s ∈ (l.take i).map f) : ¬ (l.map f).Nodup := by
  intro hn
  have e : l.map f = (l.take (i + 1)).map f ++ (l.drop (i + 1)).map f := by rw [← List.map_append, List.take_append_drop]
  rw [e, List.nodup_append, take_map hs, List.nodup_append] at hn
  exact hn.1.2.2 _ h _ (by simp) rfl
def EnI (x : Ty) (n : Nat) (st : St) : Prop := ∃ (i a b : Nat) (seen : List Int), lk st.ρ 1 = some (.iv (.ref (encTy x))) ∧ lk st.ρ 3 = some (.mp 0 a) ∧ lk st.ρ 4 = some (.mp 1 b) ∧ lk st.ρ 42 = some (.iv (.slice (x.syms.map encSym))) ∧ lk st.ρ 43 = some (.iv (.int .i64 (x.syms.length : Int))) ∧ lk st.ρ 44 = some (.iv (.int .i64 (i : Int))) ∧
  lk st.σ 0 = some (a, .map .str (encNames (.agg []) ((x.syms.take i).map Sym.name))) ∧ lk st.σ 1 = some (b, .map (.int .i64) (encNums (.agg []) seen)) ∧ i ≤ x.syms.length ∧ x.syms.length < i + n ∧ Met seen ((x.syms.take i).map Sym.num) ∧ SymsOk (x.syms.take i) ∧ ((x.syms.take i).map Sym.name).Nodup
theorem goodEnum_fc (x : Ty) (hx : okTy x) : FC Tryd.prog i_table_goodEnum [encTy x] (· = .bool (dec (EnumOk x))) := by
  obtain ⟨z1, z2, z3, z4, z5, z6, z7, z8⟩ := hx
  by_cases c1 : (x.syms.length : Int) < 1
  · (refine FC.vc (envEn_ok) F_table_goodEnum T_table_goodEnum L_table_goodEnum ?_; unfold A_table_goodEnum; simp only [args0, zl0, zl1, zl2, zl3, zn1])
    (simp -implicitDefEqProofs +contextual (maxSteps := 8000000) only [go_sem, ↓reduceIte, zn0, zn1, zn2, zn3, zn4, reduceCtorEq, zn5, zi0, zi1, zi2, zi3, zi4, zn6, zn7, zn8, zn9, encTy, envEn, c1])
    exact (dec_false fun h => by have := h.1; omega).symm
  by_cases c2 : 128 < (x.syms.length : Int)
  · (refine FC.vc (envEn_ok) F_table_goodEnum T_table_goodEnum L_table_goodEnum ?_; unfold A_table_goodEnum; simp only [args0, zl0, zl1, zl2, zl3, zn1])
    (simp -implicitDefEqProofs +contextual (maxSteps := 8000000) only [go_sem, ↓reduceIte, zn0, zn1, zn2, zn3, zn4, reduceCtorEq, zn5, zi0, zi1, zi2, zi3, zi4, zn6, zn7, zn8, zn9, encTy, envEn, c1, c2])
    exact (dec_false fun h => by have := h.2.1; omega).symm
  obtain ⟨s0, hs0⟩ : ∃ s, x.syms[0]? = some s := ⟨x.syms[0]'(by omega), by rw [List.getElem?_eq_getElem]⟩
  have hm0 := get_map (f := encSym) hs0
  simp only [encSym] at hm0
  have p0 : 0 < (x.syms.length : Int) := by omega
  by_cases c3 : s0.num = 0
  · have w1 : IntKind.i64.wrap ((x.fields.length : Int) + (x.oneofs.length : Int)) = ((x.fields.length + x.oneofs.length : Nat) : Int) := by rw [wrap_i64 (by omega) (by omega)]; omega
    have w2 : IntKind.i64.wrap (((x.fields.length + x.oneofs.length : Nat) : Int) + (x.rsv.length : Int)) = ((x.fields.length + x.oneofs.length + x.rsv.length : Nat) : Int) := by rw [wrap_i64 (by omega) (by omega)]; omega
    by_cases c4 : 0 < ((x.fields.length + x.oneofs.length + x.rsv.length : Nat) : Int)
    · (refine FC.vc (envEn_ok) F_table_goodEnum T_table_goodEnum L_table_goodEnum ?_; unfold A_table_goodEnum; simp only [args0, zl0, zl1, zl2, zl3, zn1])
      (simp -implicitDefEqProofs +contextual (maxSteps := 8000000) only [go_sem, ↓reduceIte, zn0, zn1, zn2, zn3, zn4, reduceCtorEq, zn5, zi0, zi1, zi2, zi3, zi4, zn6, zn7, zn8, zn9, encTy, envEn, c1, c2, hm0, p0, c3, w1, w2, c4, forall_eq'])
      exact (dec_false fun h => by obtain ⟨_, _, _, h4, h5, h6, _⟩ := h; omega).symm
    · (refine FC.vc (envEn_ok) F_table_goodEnum T_table_goodEnum L_table_goodEnum ?_; unfold A_table_goodEnum; simp only [args0, zl0, zl1, zl2, zl3, zn1])
      (simp -implicitDefEqProofs +contextual (maxSteps := 8000000) only [go_sem, ↓reduceIte, zn0, zn1, zn2, zn3, zn4, reduceCtorEq, zn5, zi0, zi1, zi2, zi3, zi4, zn6, zn7, zn8, zn9, encTy, envEn, c1, c2, hm0, p0, c3, w1, w2, c4, forall_eq'])
      refine vc_loop (EnI x) (x.syms.length + 1) ⟨0, 0, 0, [], by simp [lk, encTy], by simp [lk], by simp [lk], by simp [lk], by simp [lk], by simp [lk], by simp [lk, encNames], by simp [lk, encNums], by omega, by omega, Met.nil, by simp [SymsOk], by simp⟩ ?_
      rintro n st ⟨i, a, b, seen, h1, h3, h4, h42, h43, h44, k0, k1, g1, g2, g3, g4, g5⟩
      simp only [encTy] at h1
      by_cases hi : i < x.syms.length
      · obtain ⟨y, hy⟩ : ∃ y, x.syms[i]? = some y := ⟨x.syms[i], by simp [hi]⟩
        have hm := get_map (f := encSym) hy
        simp only [encSym] at hm
        have hw := wrap1 hi (by omega)
        have hsz := z8 y (List.mem_of_getElem? hy)
        have hlt : (i : Int) < (x.syms.length : Int) := by omega
        have hput := mputN (.agg []) seen y.num
        have no : ¬ (nameB y.name = true ∧ 0 ≤ y.num ∧ y.num ≤ 2147483647 ∧ y.name ∉ (x.syms.take i).map Sym.name) → false = dec (EnumOk x) := fun h => (dec_false fun hE => by
          obtain ⟨_, _, _, _, _, _, h7, h8, _⟩ := hE
          obtain ⟨q1, q2, q3⟩ := h7 y (List.mem_of_getElem? hy)
          exact h ⟨q1, q2, q3, fun hmem => not_nodup hy hmem h8⟩).symm
        by_cases d1 : nameB y.name = true
        · by_cases d2 : y.name ∈ (x.syms.take i).map Sym.name
          · have hadd : ∀ σ, lk σ 0 = some (a, .map .str (encNames (.agg []) ((x.syms.take i).map Sym.name))) → g_named_add [.mp 0 a, .iv (.str y.name)] σ = some (.iv (.bool false), upd σ 90 (nxt σ 90, .box [])) := fun σ h => g_named_add_old (by decide) h d2
            rcases hz : lk st.σ 2 with _ | ⟨v0, it0⟩
            all_goals
              (simp -implicitDefEqProofs +contextual (maxSteps := 8000000) only [go_sem, ↓reduceIte, zn0, zn1, zn2, zn3, zn4, reduceCtorEq, zn5, zi0, zi1, zi2, zi3, zi4, zn6, zn7, zn8, zn9, encTy, envEn, i_lex_IsName, i_table_named_add, g_lex_IsName_is, h1, h3, h4, h42, h43, h44, k0, k1, hi, hlt, hm, hw, hsz, hz, hadd, d1, forall_eq'])
              exact no fun h => h.2.2.2 d2
          · have hadd : ∀ σ, lk σ 0 = some (a, .map .str (encNames (.agg []) ((x.syms.take i).map Sym.name))) → g_named_add [.mp 0 a, .iv (.str y.name)] σ = some (.iv (.bool true), addσ σ 0 a ((x.syms.take i).map Sym.name ++ [y.name])) := fun σ h => g_named_add_new (by decide) h d2
            by_cases d3 : y.num < 0
            · rcases hz : lk st.σ 2 with _ | ⟨v0, it0⟩
              all_goals
                (simp -implicitDefEqProofs +contextual (maxSteps := 8000000) only [go_sem, ↓reduceIte, zn0, zn1, zn2, zn3, zn4, reduceCtorEq, zn5, zi0, zi1, zi2, zi3, zi4, zn6, zn7, zn8, zn9, encTy, envEn, i_lex_IsName, i_table_named_add, g_lex_IsName_is, h1, h3, h4, h42, h43, h44, k0, k1, hi, hlt, hm, hw, hsz, hz, hadd, d1, d3, addσ, forall_eq'])
                exact no fun h => by omega
            · by_cases d4 : 2147483647 < y.num
              · rcases hz : lk st.σ 2 with _ | ⟨v0, it0⟩
                all_goals
                  (simp -implicitDefEqProofs +contextual (maxSteps := 8000000) only [go_sem, ↓reduceIte, zn0, zn1, zn2, zn3, zn4, reduceCtorEq, zn5, zi0, zi1, zi2, zi3, zi4, zn6, zn7, zn8, zn9, encTy, envEn, i_lex_IsName, i_table_named_add, g_lex_IsName_is, h1, h3, h4, h42, h43, h44, k0, k1, hi, hlt, hm, hw, hsz, hz, hadd, d1, d3, d4, addσ, forall_eq'])
                  exact no fun h => by omega
              · rcases hz : lk st.σ 2 with _ | ⟨v0, it0⟩
                all_goals
                  (simp -implicitDefEqProofs +contextual (maxSteps := 8000000) only [go_sem, ↓reduceIte, zn0, zn1, zn2, zn3, zn4, reduceCtorEq, zn5, zi0, zi1, zi2, zi3, zi4, zn6, zn7, zn8, zn9, encTy, envEn, i_lex_IsName, i_table_named_add, g_lex_IsName_is, h1, h3, h4, h42, h43, h44, k0, k1, hi, hlt, hm, hw, hsz, hz, hadd, d1, d3, d4, addσ, hput, forall_eq'])
                  exact ⟨n - 1, by omega, i + 1, a, b, putNum seen y.num, by simp [lk, h1, encTy], by simp [lk, h3], by simp [lk, h4], by simp [lk, h42], by simp [lk, h43], by simp [lk], by simp [lk_upd, take_map hy], by simp [lk_upd], by omega, by omega, by rw [take_map hy]; exact g3.put _, g4.snoc hy d1 (by omega) (by omega), by rw [take_map hy]; exact nodup_snoc g5 d2⟩
        · have d1' : nameB y.name = false := by simpa using d1
          rcases hz : lk st.σ 2 with _ | ⟨v0, it0⟩
          all_goals
            (simp -implicitDefEqProofs +contextual (maxSteps := 8000000) only [go_sem, ↓reduceIte, zn0, zn1, zn2, zn3, zn4, reduceCtorEq, zn5, zi0, zi1, zi2, zi3, zi4, zn6, zn7, zn8, zn9, encTy, envEn, i_lex_IsName, i_table_named_add, g_lex_IsName_is, h1, h3, h4, h42, h43, h44, k0, k1, hi, hlt, hm, hw, hsz, hz, d1', forall_eq'])
            exact no fun h => d1 h.1
      · have hlt : ¬ (i : Int) < (x.syms.length : Int) := by omega
        (simp -implicitDefEqProofs +contextual (maxSteps := 8000000) only [go_sem, ↓reduceIte, zn0, zn1, zn2, zn3, zn4, reduceCtorEq, zn5, zi0, zi1, zi2, zi3, zi4, zn6, zn7, zn8, zn9, encTy, envEn, i_lex_IsName, i_table_named_add, g_lex_IsName_is, h1, h3, h4, h42, h43, h44, k0, k1, hi, hlt])
        rw [encNums_len]
        rw [List.take_of_length_le (by omega)] at g3 g4 g5
        apply dec_is
        rw [decide_eq_true_iff]
        have e := g3.eq
        rw [List.length_map] at e
        rw [e]
        exact ⟨fun h => ⟨by omega, by omega, fun s hs => by rw [hs0] at hs; injection hs with hs; subst hs; exact c3, by omega, by omega, by omega, g4, g5, h⟩, fun h => by obtain ⟨_, _, _, _, _, _, _, _, h9⟩ := h; exact h9⟩
  · (refine FC.vc (envEn_ok) F_table_goodEnum T_table_goodEnum L_table_goodEnum ?_; unfold A_table_goodEnum; simp only [args0, zl0, zl1, zl2, zl3, zn1])
    (simp -implicitDefEqProofs +contextual (maxSteps := 8000000) only [go_sem, ↓reduceIte, zn0, zn1, zn2, zn3, zn4, reduceCtorEq, zn5, zi0, zi1, zi2, zi3, zi4, zn6, zn7, zn8, zn9, encTy, envEn, c1, c2, hm0, p0, c3, forall_eq'])
    exact (dec_false fun h => c3 (h.2.2.1 s0 hs0)).symm
noncomputable def envRe : Env := { split := true, fc := [(i_cartoucheref4_IsName, g_cartoucheref4_IsName)] }
theorem envRe_ok : EnvOk Tryd.prog envRe := EnvOk.noneS.addF g_cartoucheref4_IsName_ok
theorem notin_take {α β : Type} {f : α → β} {l : List α} {j : Nat} {y : α} {a : β} (h : a ∉ (l.take j).map f) (hy : l[j]? = some y) (hne : ¬ f y = a) : a ∉ (l.take (j + 1)).map f := by
  rw [take_map hy]
  intro hm
  rcases List.mem_append.1 hm with hm | hm
  · exact h hm
  · simp at hm; exact hne hm.symm
theorem in_take {α β : Type} {f : α → β} {l : List α} {i j : Nat} {y : α} {a : β} (hj : j < i) (hy : l[j]? = some y) (he : f y = a) : a ∈ (l.take i).map f := by
  rw [← he]
  exact List.mem_map_of_mem (List.mem_of_getElem? (by rw [List.getElem?_take, if_pos hj]; exact hy))
def EkI (x : Ty) (n : Nat) (st : St) : Prop := ∃ (i : Nat), lk st.ρ 1 = some (.iv (.ref (encTy x))) ∧ lk st.ρ 3 = some (.iv (.int .i64 (x.syms.length : Int))) ∧ lk st.ρ 4 = some (.iv (.int .i64 (i : Int))) ∧
  i ≤ x.syms.length ∧ x.syms.length < i + n ∧ SymsOk (x.syms.take i) ∧ ((x.syms.take i).map Sym.name).Nodup ∧ ((x.syms.take i).map Sym.num).Nodup
def EkJ (x : Ty) (i : Nat) (y : Sym) (n : Nat) (st : St) : Prop := ∃ (j v : Nat), lk st.ρ 1 = some (.iv (.ref (encTy x))) ∧ lk st.ρ 3 = some (.iv (.int .i64 (x.syms.length : Int))) ∧ lk st.ρ 4 = some (.iv (.int .i64 (i : Int))) ∧ lk st.ρ 5 = some (.loc 0 v 0) ∧ lk st.ρ 6 = some (.iv (.int .i64 (j : Int))) ∧
  lk st.σ 0 = some (v, .box [.iv (.str y.name), .iv (.int .i64 y.num)]) ∧ j ≤ i ∧ i < j + n ∧ y.name ∉ (x.syms.take j).map Sym.name ∧ y.num ∉ (x.syms.take j).map Sym.num
theorem ref7_enum_fc (x : Ty) (hx : okTy x) : FC Tryd.prog i_cartoucheref7_enum [encTy x] (· = .bool (dec (EnumOk x))) := by
  obtain ⟨z1, z2, z3, z4, z5, z6, z7, z8⟩ := hx
  by_cases c1 : (x.syms.length : Int) < 1
  · (refine FC.vc (envRe_ok) F_cartoucheref7_enum T_cartoucheref7_enum L_cartoucheref7_enum ?_; unfold A_cartoucheref7_enum; simp only [args0, zl0, zl1, zl2, zl3, zn1])
    (simp -implicitDefEqProofs +contextual (maxSteps := 8000000) only [go_sem, ↓reduceIte, zn0, zn1, zn2, zn3, zn4, reduceCtorEq, zn5, zi0, zi1, zi2, zi3, zi4, zn6, zn7, zn8, zn9, encTy, envRe, c1])
    exact (dec_false fun h => by have := h.1; omega).symm
  by_cases c2 : 128 < (x.syms.length : Int)
  · (refine FC.vc (envRe_ok) F_cartoucheref7_enum T_cartoucheref7_enum L_cartoucheref7_enum ?_; unfold A_cartoucheref7_enum; simp only [args0, zl0, zl1, zl2, zl3, zn1])
    (simp -implicitDefEqProofs +contextual (maxSteps := 8000000) only [go_sem, ↓reduceIte, zn0, zn1, zn2, zn3, zn4, reduceCtorEq, zn5, zi0, zi1, zi2, zi3, zi4, zn6, zn7, zn8, zn9, encTy, envRe, c1, c2])
    exact (dec_false fun h => by have := h.2.1; omega).symm
  obtain ⟨s0, hs0⟩ : ∃ s, x.syms[0]? = some s := ⟨x.syms[0]'(by omega), by rw [List.getElem?_eq_getElem]⟩
  have hm0 := get_map (f := encSym) hs0
  simp only [encSym] at hm0
  have p0 : 0 < (x.syms.length : Int) := by omega
  by_cases c3 : s0.num = 0
  rotate_left
  · (refine FC.vc (envRe_ok) F_cartoucheref7_enum T_cartoucheref7_enum L_cartoucheref7_enum ?_; unfold A_cartoucheref7_enum; simp only [args0, zl0, zl1, zl2, zl3, zn1])
    (simp -implicitDefEqProofs +contextual (maxSteps := 8000000) only [go_sem, ↓reduceIte, zn0, zn1, zn2, zn3, zn4, reduceCtorEq, zn5, zi0, zi1, zi2, zi3, zi4, zn6, zn7, zn8, zn9, encTy, envRe, c1, c2, hm0, p0, c3, forall_eq'])
    exact (dec_false fun h => c3 (h.2.2.1 s0 hs0)).symm
  by_cases c4 : 0 < (x.fields.length : Int)
  · (refine FC.vc (envRe_ok) F_cartoucheref7_enum T_cartoucheref7_enum L_cartoucheref7_enum ?_; unfold A_cartoucheref7_enum; simp only [args0, zl0, zl1, zl2, zl3, zn1])
    (simp -implicitDefEqProofs +contextual (maxSteps := 8000000) only [go_sem, ↓reduceIte, zn0, zn1, zn2, zn3, zn4, reduceCtorEq, zn5, zi0, zi1, zi2, zi3, zi4, zn6, zn7, zn8, zn9, encTy, envRe, c1, c2, hm0, p0, c3, c4, forall_eq'])
    exact (dec_false fun h => by have := h.2.2.2.1; omega).symm
  by_cases c5 : 0 < (x.oneofs.length : Int)
  · (refine FC.vc (envRe_ok) F_cartoucheref7_enum T_cartoucheref7_enum L_cartoucheref7_enum ?_; unfold A_cartoucheref7_enum; simp only [args0, zl0, zl1, zl2, zl3, zn1])
    (simp -implicitDefEqProofs +contextual (maxSteps := 8000000) only [go_sem, ↓reduceIte, zn0, zn1, zn2, zn3, zn4, reduceCtorEq, zn5, zi0, zi1, zi2, zi3, zi4, zn6, zn7, zn8, zn9, encTy, envRe, c1, c2, hm0, p0, c3, c4, c5, forall_eq'])
    exact (dec_false fun h => by have := h.2.2.2.2.1; omega).symm
  by_cases c6 : 0 < (x.rsv.length : Int)
  · (refine FC.vc (envRe_ok) F_cartoucheref7_enum T_cartoucheref7_enum L_cartoucheref7_enum ?_; unfold A_cartoucheref7_enum; simp only [args0, zl0, zl1, zl2, zl3, zn1])
    (simp -implicitDefEqProofs +contextual (maxSteps := 8000000) only [go_sem, ↓reduceIte, zn0, zn1, zn2, zn3, zn4, reduceCtorEq, zn5, zi0, zi1, zi2, zi3, zi4, zn6, zn7, zn8, zn9, encTy, envRe, c1, c2, hm0, p0, c3, c4, c5, c6, forall_eq'])
    exact (dec_false fun h => by have := h.2.2.2.2.2.1; omega).symm
  (refine FC.vc (envRe_ok) F_cartoucheref7_enum T_cartoucheref7_enum L_cartoucheref7_enum ?_; unfold A_cartoucheref7_enum; simp only [args0, zl0, zl1, zl2, zl3, zn1])
  (simp -implicitDefEqProofs +contextual (maxSteps := 8000000) only [go_sem, ↓reduceIte, zn0, zn1, zn2, zn3, zn4, reduceCtorEq, zn5, zi0, zi1, zi2, zi3, zi4, zn6, zn7, zn8, zn9, encTy, envRe, c1, c2, hm0, p0, c3, c4, c5, c6, forall_eq'])
  refine vc_loop (EkI x) (x.syms.length + 1) ⟨0, by simp [lk, encTy], by simp [lk], by simp [lk], by omega, by omega, by simp [SymsOk], by simp, by simp⟩ ?_
  rintro n st ⟨i, h1, h3, h4, g1, g2, g3, g4, g5⟩
  simp only [encTy] at h1
  by_cases hi : i < x.syms.length
  · obtain ⟨y, hy⟩ : ∃ y, x.syms[i]? = some y := ⟨x.syms[i], by simp [hi]⟩
    have hm := get_map (f := encSym) hy
    simp only [encSym] at hm
    have hw := wrap1 hi (by omega)
    have hsz := z8 y (List.mem_of_getElem? hy)
    have hlt : (i : Int) < (x.syms.length : Int) := by omega
    have no : ¬ (nameB y.name = true ∧ 0 ≤ y.num ∧ y.num ≤ 2147483647) → false = dec (EnumOk x) := fun h => (dec_false fun hE => by
      obtain ⟨_, _, _, _, _, _, h7, h8, _⟩ := hE
      exact h (h7 y (List.mem_of_getElem? hy))).symm
    by_cases d1 : nameB y.name = true
    rotate_left
    · have d1' : nameB y.name = false := by simpa using d1
      rcases hz : lk st.σ 0 with _ | ⟨v0, it0⟩
      all_goals
        (simp -implicitDefEqProofs +contextual (maxSteps := 8000000) only [go_sem, ↓reduceIte, zn0, zn1, zn2, zn3, zn4, reduceCtorEq, zn5, zi0, zi1, zi2, zi3, zi4, zn6, zn7, zn8, zn9, encTy, envRe, i_cartoucheref4_IsName, g_cartoucheref4_IsName_is, h1, h3, h4, hi, hlt, hm, hw, hsz, hz, d1', forall_eq'])
        exact no fun h => d1 h.1
    by_cases d3 : y.num < 0
    · rcases hz : lk st.σ 0 with _ | ⟨v0, it0⟩
      all_goals
        (simp -implicitDefEqProofs +contextual (maxSteps := 8000000) only [go_sem, ↓reduceIte, zn0, zn1, zn2, zn3, zn4, reduceCtorEq, zn5, zi0, zi1, zi2, zi3, zi4, zn6, zn7, zn8, zn9, encTy, envRe, i_cartoucheref4_IsName, g_cartoucheref4_IsName_is, h1, h3, h4, hi, hlt, hm, hw, hsz, hz, d1, d3, forall_eq'])
        exact no fun h => by omega
    by_cases d4 : 2147483648 ≤ y.num
    · rcases hz : lk st.σ 0 with _ | ⟨v0, it0⟩
      all_goals
        (simp -implicitDefEqProofs +contextual (maxSteps := 8000000) only [go_sem, ↓reduceIte, zn0, zn1, zn2, zn3, zn4, reduceCtorEq, zn5, zi0, zi1, zi2, zi3, zi4, zn6, zn7, zn8, zn9, encTy, envRe, i_cartoucheref4_IsName, g_cartoucheref4_IsName_is, h1, h3, h4, hi, hlt, hm, hw, hsz, hz, d1, d3, d4, forall_eq'])
        exact no fun h => by omega
    rcases hz : lk st.σ 0 with _ | ⟨v0, it0⟩
    all_goals
      (simp -implicitDefEqProofs +contextual (maxSteps := 8000000) only [go_sem, ↓reduceIte, zn0, zn1, zn2, zn3, zn4, reduceCtorEq, zn5, zi0, zi1, zi2, zi3, zi4, zn6, zn7, zn8, zn9, encTy, envRe, i_cartoucheref4_IsName, g_cartoucheref4_IsName_is, h1, h3, h4, hi, hlt, hm, hw, hsz, hz, d1, d3, d4, forall_eq'])
      refine vc_loop (EkJ x i y) (i + 1) ⟨0, _, by simp [lk, h1, encTy], by simp [lk, h3], by simp [lk, h4], by simp [lk]; rfl, by simp [lk], by simp [lk_upd], by omega, by omega, by simp, by simp⟩ ?_
      clear hz
      rintro m st ⟨j, v, h1, h3, h4, h5, h6, k0, f1, f2, f3, f4⟩
      simp only [encTy] at h1
      by_cases hj : j < i
      · obtain ⟨u, hu⟩ : ∃ u, x.syms[j]? = some u := ⟨x.syms[j]'(by omega), by rw [List.getElem?_eq_getElem]⟩
        have hmu := get_map (f := encSym) hu
        simp only [encSym] at hmu
        have hwj := wrap1 hj (by omega)
        have hlj : (j : Int) < (i : Int) := by omega
        have hlj2 : (j : Int) < (x.syms.length : Int) := by omega
        by_cases e1 : u.name = y.name
        · (simp -implicitDefEqProofs +contextual (maxSteps := 8000000) only [go_sem, ↓reduceIte, zn0, zn1, zn2, zn3, zn4, reduceCtorEq, zn5, zi0, zi1, zi2, zi3, zi4, zn6, zn7, zn8, zn9, encTy, envRe, h1, h3, h4, h5, h6, k0, hj, hlj, hlj2, hmu, hwj, e1, forall_eq'])
          exact (dec_false fun h => not_nodup hy (in_take hj hu e1) h.2.2.2.2.2.2.2.1).symm
        by_cases e2 : u.num = y.num
        · (simp -implicitDefEqProofs +contextual (maxSteps := 8000000) only [go_sem, ↓reduceIte, zn0, zn1, zn2, zn3, zn4, reduceCtorEq, zn5, zi0, zi1, zi2, zi3, zi4, zn6, zn7, zn8, zn9, encTy, envRe, h1, h3, h4, h5, h6, k0, hj, hlj, hlj2, hmu, hwj, e1, e2, forall_eq'])
          exact (dec_false fun h => not_nodup hy (in_take hj hu e2) h.2.2.2.2.2.2.2.2).symm
        (simp -implicitDefEqProofs +contextual (maxSteps := 8000000) only [go_sem, ↓reduceIte, zn0, zn1, zn2, zn3, zn4, reduceCtorEq, zn5, zi0, zi1, zi2, zi3, zi4, zn6, zn7, zn8, zn9, encTy, envRe, h1, h3, h4, h5, h6, k0, hj, hlj, hlj2, hmu, hwj, e1, e2, forall_eq'])
        exact ⟨m - 1, by omega, j + 1, v, by simp [lk, h1, encTy], by simp [lk, h3], by simp [lk, h4], by simp [lk, h5], by simp [lk], by simp [k0], by omega, by omega, notin_take f3 hu e1, notin_take f4 hu e2⟩
      · have hlj : ¬ (j : Int) < (i : Int) := by omega
        have hji : j = i := by omega
        subst hji
        (simp -implicitDefEqProofs +contextual (maxSteps := 8000000) only [go_sem, ↓reduceIte, zn0, zn1, zn2, zn3, zn4, reduceCtorEq, zn5, zi0, zi1, zi2, zi3, zi4, zn6, zn7, zn8, zn9, encTy, envRe, h1, h3, h4, h5, h6, k0, hj, hlj, hw])
        exact ⟨n - 1, by omega, j + 1, by simp [lk, h1, encTy], by simp [lk, h3], by simp [lk], by omega, by omega, g3.snoc hy d1 (by omega) (by omega), by rw [take_map hy]; exact nodup_snoc g4 f3, by rw [take_map hy]; exact nodup_snoc g5 f4⟩
  · have hlt : ¬ (i : Int) < (x.syms.length : Int) := by omega
    (simp -implicitDefEqProofs +contextual (maxSteps := 8000000) only [go_sem, ↓reduceIte, zn0, zn1, zn2, zn3, zn4, reduceCtorEq, zn5, zi0, zi1, zi2, zi3, zi4, zn6, zn7, zn8, zn9, encTy, envRe, h1, h3, h4, hi, hlt])
    rw [List.take_of_length_le (by omega)] at g3 g4 g5
    exact (dec_true ⟨by omega, by omega, fun s hs => by rw [hs0] at hs; injection hs with hs; subst hs; exact c3, by omega, by omega, by omega, g3, g4, g5⟩).symm
open Classical
noncomputable def g_table_goodField : List IV → Option IV
  | [t_, x_, f_] => (match decTable t_ with
    | some t => (match decTy x_ with
    | some x => (match decFT f_ with
    | some f => some (.bool (fieldB t x f))
    | none => none)
    | none => none)
    | none => none)
  | _ => none
theorem g_table_goodField_is (t : List Ty) (x : Ty) (f : FT) : g_table_goodField [encTable t, encTy x, encFT f] = some (.bool (fieldB t x f)) := by
  simp only [g_table_goodField, decTable_enc, decTy_enc, decFT_enc]
theorem g_table_goodField_ok : ∀ xs r, g_table_goodField xs = some r → FC Tryd.prog i_table_goodField xs (· = r) := by
  intro xs r h
  unfold g_table_goodField at h
  split at h
  · rename_i t_ x_ f_
    split at h
    · rename_i t ht
      split at h
      · rename_i x hx
        split at h
        · rename_i f hf
          injection h with h; subst h
          have := decTable_enc_inv ht; subst this
          have := decTy_enc_inv hx; subst this
          have := decFT_enc_inv hf; subst this
          exact goodField_fc t x f
        · cases h
      · cases h
    · cases h
  · cases h

noncomputable def g_cartoucheref7_field : List IV → Option IV
  | [t_, x_, f_] => (match decTable t_ with
    | some t => (match decTy x_ with
    | some x => (match decFT f_ with
    | some f => some (.bool (decide (1 ≤ f.number ∧ f.number ≤ 536870911) && fieldB t x f))
    | none => none)
    | none => none)
    | none => none)
  | _ => none
theorem g_cartoucheref7_field_is (t : List Ty) (x : Ty) (f : FT) : g_cartoucheref7_field [encTable t, encTy x, encFT f] = some (.bool (decide (1 ≤ f.number ∧ f.number ≤ 536870911) && fieldB t x f)) := by
  simp only [g_cartoucheref7_field, decTable_enc, decTy_enc, decFT_enc]
theorem g_cartoucheref7_field_ok : ∀ xs r, g_cartoucheref7_field xs = some r → FC Tryd.prog i_cartoucheref7_field xs (· = r) := by
  intro xs r h
  unfold g_cartoucheref7_field at h
  split at h
  · rename_i t_ x_ f_
    split at h
    · rename_i t ht
      split at h
      · rename_i x hx
        split at h
        · rename_i f hf
          injection h with h; subst h
          have := decTable_enc_inv ht; subst this
          have := decTy_enc_inv hx; subst this
          have := decFT_enc_inv hf; subst this
          exact ref7_field_fc t x f
        · cases h
      · cases h
    · cases h
  · cases h

noncomputable def g_table_goodEnum : List IV → Option IV
  | [x_] => (match decTy x_ with
    | some x => if okTy x then some (.bool (dec (EnumOk x))) else none
    | none => none)
  | _ => none
theorem g_table_goodEnum_is (x : Ty) : g_table_goodEnum [encTy x] = if okTy x then some (.bool (dec (EnumOk x))) else none := by
  simp only [g_table_goodEnum, decTy_enc]
theorem g_table_goodEnum_ok : ∀ xs r, g_table_goodEnum xs = some r → FC Tryd.prog i_table_goodEnum xs (· = r) := by
  intro xs r h
  unfold g_table_goodEnum at h
  split at h
  · rename_i x_
    split at h
    · rename_i x hx
      split at h
      · rename_i hpre
        injection h with h; subst h
        have := decTy_enc_inv hx; subst this
        exact goodEnum_fc x hpre
      · cases h
    · cases h
  · cases h

noncomputable def g_cartoucheref7_enum : List IV → Option IV
  | [x_] => (match decTy x_ with
    | some x => if okTy x then some (.bool (dec (EnumOk x))) else none
    | none => none)
  | _ => none
theorem g_cartoucheref7_enum_is (x : Ty) : g_cartoucheref7_enum [encTy x] = if okTy x then some (.bool (dec (EnumOk x))) else none := by
  simp only [g_cartoucheref7_enum, decTy_enc]
theorem g_cartoucheref7_enum_ok : ∀ xs r, g_cartoucheref7_enum xs = some r → FC Tryd.prog i_cartoucheref7_enum xs (· = r) := by
  intro xs r h
  unfold g_cartoucheref7_enum at h
  split at h
  · rename_i x_
    split at h
    · rename_i x hx
      split at h
      · rename_i hpre
        injection h with h; subst h
        have := decTy_enc_inv hx; subst this
        exact ref7_enum_fc x hpre
      · cases h
    · cases h
  · cases h

end Go.Proofs.YtmdkcapbahjipaaDoor.Ag
