/- Names, kinds, names met: functions walked -/
import Derived.Test.YtmdkcapbahjipaaDoorTAirA
import Derived.Test.YtmdkcapbahjipaaDoorTSL
set_option linter.unusedVariables false
set_option linter.unusedSimpArgs false
set_option maxRecDepth 100000
set_option maxHeartbeats 2000000
open List renaming map_cons → zl0, map_nil → zl1, zipIdx_cons → zl2, zipIdx_nil → zl3
open Nat renaming reduceEqDiff → zn0, reduceAdd → zn1, reduceSub → zn2, reduceLeDiff → zn3, reduceMul → zn4, reduceBEq → zn5, reducePow → zn6, reduceLT → zn7, reduceDiv → zn8, reduceMod → zn9
open Int renaming reduceLT → zi0, reduceLE → zi1, reduceNeg → zi2, reduceEq → zi3, reduceToNat → zi4
namespace Go.Proofs.YtmdkcapbahjipaaDoor.Ag
theorem letN_is (c : Int) : (decide (97 ≤ c) && decide (c ≤ 122) || decide (65 ≤ c) && decide (c ≤ 90) || decide (c = 95)) = letN c := by simp [letN]
theorem digN_is (c : Int) : (decide (48 ≤ c) && decide (c ≤ 57)) = digN c := by simp [digN]
theorem lex_letter_fc (c : Int) : FC Tryd.prog i_lex_letter [.int .u8 c] (· = .bool (letN c)) := by
  (refine FC.vc (EnvOk.none) F_lex_letter T_lex_letter L_lex_letter ?_; unfold A_lex_letter; simp only [args0, zl0, zl1, zl2, zl3, zn1])
  (simp -implicitDefEqProofs +contextual (maxSteps := 8000000) only [go_sem, ↓reduceIte, zn0, zn1, zn2, zn3, zn4, reduceCtorEq, zn5, zi0, zi1, zi2, zi3, zi4, zn6, zn7, zn8, zn9])
  exact letN_is c
theorem lex_digit_fc (c : Int) : FC Tryd.prog i_lex_digit [.int .u8 c] (· = .bool (digN c)) := by
  (refine FC.vc (EnvOk.none) F_lex_digit T_lex_digit L_lex_digit ?_; unfold A_lex_digit; simp only [args0, zl0, zl1, zl2, zl3, zn1])
  (simp -implicitDefEqProofs +contextual (maxSteps := 8000000) only [go_sem, ↓reduceIte, zn0, zn1, zn2, zn3, zn4, reduceCtorEq, zn5, zi0, zi1, zi2, zi3, zi4, zn6, zn7, zn8, zn9])
  exact digN_is c
theorem ref4_letter_fc (c : Int) : FC Tryd.prog i_cartoucheref4_letter [.int .u8 c] (· = .bool (letN c)) := by
  (refine FC.vc (EnvOk.none) F_cartoucheref4_letter T_cartoucheref4_letter L_cartoucheref4_letter ?_; unfold A_cartoucheref4_letter; simp only [args0, zl0, zl1, zl2, zl3, zn1])
  (simp -implicitDefEqProofs +contextual (maxSteps := 8000000) only [go_sem, ↓reduceIte, zn0, zn1, zn2, zn3, zn4, reduceCtorEq, zn5, zi0, zi1, zi2, zi3, zi4, zn6, zn7, zn8, zn9])
  exact letN_is c
theorem ref4_digit_fc (c : Int) : FC Tryd.prog i_cartoucheref4_digit [.int .u8 c] (· = .bool (digN c)) := by
  (refine FC.vc (EnvOk.none) F_cartoucheref4_digit T_cartoucheref4_digit L_cartoucheref4_digit ?_; unfold A_cartoucheref4_digit; simp only [args0, zl0, zl1, zl2, zl3, zn1])
  (simp -implicitDefEqProofs +contextual (maxSteps := 8000000) only [go_sem, ↓reduceIte, zn0, zn1, zn2, zn3, zn4, reduceCtorEq, zn5, zi0, zi1, zi2, zi3, zi4, zn6, zn7, zn8, zn9])
  exact digN_is c
def wireP (k e : Int) : Int := if 1 ≤ k ∧ k ≤ 17 then wireN k else e
theorem scalar_Wire_fc (k : Int) : FC Tryd.prog i_scalar_Wire [.int .i64 k] (· = .tup [.int .i64 (wireP k 0), .int .i64 (if 1 ≤ k ∧ k ≤ 17 then 0 else 18)]) := by
  (refine FC.vc (EnvOk.none) F_scalar_Wire T_scalar_Wire L_scalar_Wire ?_; unfold A_scalar_Wire; simp only [args0, zl0, zl1, zl2, zl3, zn1])
  (simp -implicitDefEqProofs +contextual (maxSteps := 8000000) only [go_sem, ↓reduceIte, zn0, zn1, zn2, zn3, zn4, reduceCtorEq, zn5, zi0, zi1, zi2, zi3, zi4, zn6, zn7, zn8, zn9])
  simp [wireP, wireN]
  omega
theorem ref3_Wire_fc (k : Int) : FC Tryd.prog i_cartoucheref3_Wire [.int .i64 k] (· = .int .i64 (wireP k (-1))) := by
  (refine FC.vc (EnvOk.none) F_cartoucheref3_Wire T_cartoucheref3_Wire L_cartoucheref3_Wire ?_; unfold A_cartoucheref3_Wire; simp only [args0, zl0, zl1, zl2, zl3, zn1])
  (simp -implicitDefEqProofs +contextual (maxSteps := 8000000) only [go_sem, ↓reduceIte, zn0, zn1, zn2, zn3, zn4, reduceCtorEq, zn5, zi0, zi1, zi2, zi3, zi4, zn6, zn7, zn8, zn9])
  simp [wireP, wireN]
  omega
theorem scalar_IsKey_fc (k : Int) : FC Tryd.prog i_scalar_IsKey [.int .i64 k] (· = .bool (isKeyN k)) := by
  (refine FC.vc (EnvOk.none) F_scalar_IsKey T_scalar_IsKey L_scalar_IsKey ?_; unfold A_scalar_IsKey; simp only [args0, zl0, zl1, zl2, zl3, zn1])
  (simp -implicitDefEqProofs +contextual (maxSteps := 8000000) only [go_sem, ↓reduceIte, zn0, zn1, zn2, zn3, zn4, reduceCtorEq, zn5, zi0, zi1, zi2, zi3, zi4, zn6, zn7, zn8, zn9])
  simp [isKeyN]
theorem ref3_IsKey_fc (k : Int) : FC Tryd.prog i_cartoucheref3_IsKey [.int .i64 k] (· = .bool (isKeyN k)) := by
  (refine FC.vc (EnvOk.none) F_cartoucheref3_IsKey T_cartoucheref3_IsKey L_cartoucheref3_IsKey ?_; unfold A_cartoucheref3_IsKey; simp only [args0, zl0, zl1, zl2, zl3, zn1])
  (simp -implicitDefEqProofs +contextual (maxSteps := 8000000) only [go_sem, ↓reduceIte, zn0, zn1, zn2, zn3, zn4, reduceCtorEq, zn5, zi0, zi1, zi2, zi3, zi4, zn6, zn7, zn8, zn9])
  simp [isKeyN]
def g_lex_letter : List IV → Option IV
  | [.int .u8 c] => some (.bool (letN c))
  | _ => none
theorem g_lex_letter_is (c : Int) : g_lex_letter [.int .u8 c] = some (.bool (letN c)) := by
  simp only [g_lex_letter]
theorem g_lex_letter_ok : ∀ xs r, g_lex_letter xs = some r → FC Tryd.prog i_lex_letter xs (· = r) := by
  intro xs r h
  unfold g_lex_letter at h
  split at h
  · rename_i c
    injection h with h; subst h
    exact lex_letter_fc c
  · cases h

def g_lex_digit : List IV → Option IV
  | [.int .u8 c] => some (.bool (digN c))
  | _ => none
theorem g_lex_digit_is (c : Int) : g_lex_digit [.int .u8 c] = some (.bool (digN c)) := by
  simp only [g_lex_digit]
theorem g_lex_digit_ok : ∀ xs r, g_lex_digit xs = some r → FC Tryd.prog i_lex_digit xs (· = r) := by
  intro xs r h
  unfold g_lex_digit at h
  split at h
  · rename_i c
    injection h with h; subst h
    exact lex_digit_fc c
  · cases h

def g_cartoucheref4_letter : List IV → Option IV
  | [.int .u8 c] => some (.bool (letN c))
  | _ => none
theorem g_cartoucheref4_letter_is (c : Int) : g_cartoucheref4_letter [.int .u8 c] = some (.bool (letN c)) := by
  simp only [g_cartoucheref4_letter]
theorem g_cartoucheref4_letter_ok : ∀ xs r, g_cartoucheref4_letter xs = some r → FC Tryd.prog i_cartoucheref4_letter xs (· = r) := by
  intro xs r h
  unfold g_cartoucheref4_letter at h
  split at h
  · rename_i c
    injection h with h; subst h
    exact ref4_letter_fc c
  · cases h

def g_cartoucheref4_digit : List IV → Option IV
  | [.int .u8 c] => some (.bool (digN c))
  | _ => none
theorem g_cartoucheref4_digit_is (c : Int) : g_cartoucheref4_digit [.int .u8 c] = some (.bool (digN c)) := by
  simp only [g_cartoucheref4_digit]
theorem g_cartoucheref4_digit_ok : ∀ xs r, g_cartoucheref4_digit xs = some r → FC Tryd.prog i_cartoucheref4_digit xs (· = r) := by
  intro xs r h
  unfold g_cartoucheref4_digit at h
  split at h
  · rename_i c
    injection h with h; subst h
    exact ref4_digit_fc c
  · cases h

def g_scalar_Wire : List IV → Option IV
  | [.int .i64 k] => some (.tup [.int .i64 (wireP k 0), .int .i64 (if 1 ≤ k ∧ k ≤ 17 then 0 else 18)])
  | _ => none
theorem g_scalar_Wire_is (k : Int) : g_scalar_Wire [.int .i64 k] = some (.tup [.int .i64 (wireP k 0), .int .i64 (if 1 ≤ k ∧ k ≤ 17 then 0 else 18)]) := by
  simp only [g_scalar_Wire]
theorem g_scalar_Wire_ok : ∀ xs r, g_scalar_Wire xs = some r → FC Tryd.prog i_scalar_Wire xs (· = r) := by
  intro xs r h
  unfold g_scalar_Wire at h
  split at h
  · rename_i k
    injection h with h; subst h
    exact scalar_Wire_fc k
  · cases h

def g_cartoucheref3_Wire : List IV → Option IV
  | [.int .i64 k] => some (.int .i64 (wireP k (-1)))
  | _ => none
theorem g_cartoucheref3_Wire_is (k : Int) : g_cartoucheref3_Wire [.int .i64 k] = some (.int .i64 (wireP k (-1))) := by
  simp only [g_cartoucheref3_Wire]
theorem g_cartoucheref3_Wire_ok : ∀ xs r, g_cartoucheref3_Wire xs = some r → FC Tryd.prog i_cartoucheref3_Wire xs (· = r) := by
  intro xs r h
  unfold g_cartoucheref3_Wire at h
  split at h
  · rename_i k
    injection h with h; subst h
    exact ref3_Wire_fc k
  · cases h

def g_scalar_IsKey : List IV → Option IV
  | [.int .i64 k] => some (.bool (isKeyN k))
  | _ => none
theorem g_scalar_IsKey_is (k : Int) : g_scalar_IsKey [.int .i64 k] = some (.bool (isKeyN k)) := by
  simp only [g_scalar_IsKey]
theorem g_scalar_IsKey_ok : ∀ xs r, g_scalar_IsKey xs = some r → FC Tryd.prog i_scalar_IsKey xs (· = r) := by
  intro xs r h
  unfold g_scalar_IsKey at h
  split at h
  · rename_i k
    injection h with h; subst h
    exact scalar_IsKey_fc k
  · cases h

def g_cartoucheref3_IsKey : List IV → Option IV
  | [.int .i64 k] => some (.bool (isKeyN k))
  | _ => none
theorem g_cartoucheref3_IsKey_is (k : Int) : g_cartoucheref3_IsKey [.int .i64 k] = some (.bool (isKeyN k)) := by
  simp only [g_cartoucheref3_IsKey]
theorem g_cartoucheref3_IsKey_ok : ∀ xs r, g_cartoucheref3_IsKey xs = some r → FC Tryd.prog i_cartoucheref3_IsKey xs (· = r) := by
  intro xs r h
  unfold g_cartoucheref3_IsKey at h
  split at h
  · rename_i k
    injection h with h; subst h
    exact ref3_IsKey_fc k
  · cases h

def envLx : Env := { fc := [(i_lex_letter, g_lex_letter), (i_lex_digit, g_lex_digit)] }
theorem envLx_ok : EnvOk Tryd.prog envLx := (EnvOk.none.addF g_lex_digit_ok).addF g_lex_letter_ok
def runL (l : List UInt8) : Nat := (l.takeWhile wordN).length
theorem runL_nil : runL [] = 0 := rfl
theorem runL_yes {c : UInt8} {r : List UInt8} (h : wordN c = true) : runL (c :: r) = runL r + 1 := by simp [runL, List.takeWhile_cons, h]
theorem runL_no {c : UInt8} {r : List UInt8} (h : wordN c = false) : runL (c :: r) = 0 := by simp [runL, List.takeWhile_cons, h]
theorem runL_all : ∀ (l : List UInt8), (decide (runL l = l.length)) = l.all wordN
  | [] => rfl
  | c :: r => by
    cases h : wordN c with
    | true =>
      rw [runL_yes h, List.all_cons, h, ← runL_all r]; simp
    | false => rw [runL_no h, List.all_cons, h]; simp
theorem drop_at {α : Type} {l : List α} {i : Nat} {c : α} (h : l[i]? = some c) : l.drop i = c :: l.drop (i + 1) := by
  obtain ⟨h1, h2⟩ := List.getElem?_eq_some_iff.1 h
  rw [List.drop_eq_getElem_cons h1, h2]
theorem wrap1 {i n : Nat} (hi : i < n) (hn : n ≤ 140737488355328) : IntKind.i64.wrap ((i : Int) + 1) = ((i + 1 : Nat) : Int) := by rw [wrap_i64 (by omega) (by omega)]; omega
theorem size_list (s : ByteArray) : s.size = s.data.toList.length := (Array.length_toList (xs := s.data)).symm
def NmI (s : ByteArray) (n : Nat) (st : St) : Prop := ∃ i : Nat, lk st.ρ 0 = some (.iv (.str s)) ∧ lk st.ρ 1 = some (.iv (.int .i64 (i : Int))) ∧ i ≤ s.size ∧ s.size < i + n ∧ i + runL (s.data.toList.drop i) = runL s.data.toList
theorem lex_named_fc (s : ByteArray) (hs : s.size ≤ 2000000) : FC Tryd.prog i_lex_named [.str s, .int .i64 0] (· = .int .i64 (runL s.data.toList : Int)) := by
  (refine FC.vc (envLx_ok) F_lex_named T_lex_named L_lex_named ?_; unfold A_lex_named; simp only [args0, zl0, zl1, zl2, zl3, zn1])
  (simp -implicitDefEqProofs +contextual (maxSteps := 8000000) only [go_sem, ↓reduceIte, zn0, zn1, zn2, zn3, zn4, reduceCtorEq, zn5, zi0, zi1, zi2, zi3, zi4, zn6, zn7, zn8, zn9, envLx, i_lex_letter, i_lex_digit, g_lex_letter_is, g_lex_digit_is])
  refine vc_loop (NmI s) (s.size + 1) ⟨0, by simp [lk], by simp [lk], by omega, by omega, by simp⟩ ?_
  rintro n st ⟨i, h0, h1, g1, g2, g3⟩
  have hsz := size_list s
  by_cases hi : i < s.size
  · obtain ⟨c, hc⟩ : ∃ c, s.data.toList[i]? = some c := ⟨s.data.toList[i]'(by omega), by rw [List.getElem?_eq_getElem]⟩
    have hw := wrap1 hi (by omega)
    have hd := drop_at hc
    cases hl : letN c.toNat with
    | true =>
      have hwd : wordN c = true := by simp [wordN, hl]
      (simp -implicitDefEqProofs +contextual (maxSteps := 8000000) only [go_sem, ↓reduceIte, zn0, zn1, zn2, zn3, zn4, reduceCtorEq, zn5, zi0, zi1, zi2, zi3, zi4, zn6, zn7, zn8, zn9, envLx, i_lex_letter, i_lex_digit, g_lex_letter_is, g_lex_digit_is, h0, h1, hi, hc, hw, hl, Option.some.injEq, forall_eq'])
      rw [hd, runL_yes hwd] at g3
      exact ⟨n - 1, by omega, i + 1, by simp [lk, h0], by simp [lk], by omega, by omega, by omega⟩
    | false =>
      cases hg : digN c.toNat with
      | true =>
        have hwd : wordN c = true := by simp [wordN, hl, hg]
        (simp -implicitDefEqProofs +contextual (maxSteps := 8000000) only [go_sem, ↓reduceIte, zn0, zn1, zn2, zn3, zn4, reduceCtorEq, zn5, zi0, zi1, zi2, zi3, zi4, zn6, zn7, zn8, zn9, envLx, i_lex_letter, i_lex_digit, g_lex_letter_is, g_lex_digit_is, h0, h1, hi, hc, hw, hl, hg, Option.some.injEq, forall_eq'])
        rw [hd, runL_yes hwd] at g3
        exact ⟨n - 1, by omega, i + 1, by simp [lk, h0], by simp [lk], by omega, by omega, by omega⟩
      | false =>
        have hwd : wordN c = false := by simp [wordN, hl, hg]
        (simp -implicitDefEqProofs +contextual (maxSteps := 8000000) only [go_sem, ↓reduceIte, zn0, zn1, zn2, zn3, zn4, reduceCtorEq, zn5, zi0, zi1, zi2, zi3, zi4, zn6, zn7, zn8, zn9, envLx, i_lex_letter, i_lex_digit, g_lex_letter_is, g_lex_digit_is, h0, h1, hi, hc, hw, hl, hg, Option.some.injEq, forall_eq'])
        rw [hd, runL_no hwd] at g3
        omega
  · (simp -implicitDefEqProofs +contextual (maxSteps := 8000000) only [go_sem, ↓reduceIte, zn0, zn1, zn2, zn3, zn4, reduceCtorEq, zn5, zi0, zi1, zi2, zi3, zi4, zn6, zn7, zn8, zn9, envLx, i_lex_letter, i_lex_digit, g_lex_letter_is, g_lex_digit_is, h0, h1, hi])
    rw [List.drop_of_length_le (by omega), runL_nil] at g3
    omega
theorem numericN_is (k : Int) : (decide ((if 1 ≤ k ∧ k ≤ 17 then (0 : Int) else 18) = 0) && !decide (wireP k 0 = 2)) = numericN k := by
  unfold wireP wireN numericN
  by_cases h : 1 ≤ k ∧ k ≤ 17
  · rw [if_pos h, if_pos h]
    split
    · simp; omega
    · split
      · simp; omega
      · split
        · simp; omega
        · simp; omega
  · rw [if_neg h, if_neg h]
    simp; omega
theorem numericN_is2 (k : Int) : (decide (0 ≤ wireP k (-1)) && !decide (wireP k (-1) = 2)) = numericN k := by
  unfold wireP wireN numericN
  by_cases h : 1 ≤ k ∧ k ≤ 17
  · rw [if_pos h]
    split
    · simp; omega
    · split
      · simp; omega
      · split
        · simp; omega
        · simp; omega
  · rw [if_neg h]
    simp; omega
theorem scalar_Numeric_fc (k : Int) : FC Tryd.prog i_scalar_Numeric [.int .i64 k] (· = .bool (numericN k)) := by
  (refine FC.vc (((EnvOk.none.addF g_scalar_Wire_ok : EnvOk Tryd.prog { fc := [(i_scalar_Wire, g_scalar_Wire)] }))) F_scalar_Numeric T_scalar_Numeric L_scalar_Numeric ?_; unfold A_scalar_Numeric; simp only [args0, zl0, zl1, zl2, zl3, zn1])
  (simp -implicitDefEqProofs +contextual (maxSteps := 8000000) only [go_sem, ↓reduceIte, zn0, zn1, zn2, zn3, zn4, reduceCtorEq, zn5, zi0, zi1, zi2, zi3, zi4, zn6, zn7, zn8, zn9, i_scalar_Wire, g_scalar_Wire_is])
  exact numericN_is k
theorem ref3_Numeric_fc (k : Int) : FC Tryd.prog i_cartoucheref3_Numeric [.int .i64 k] (· = .bool (numericN k)) := by
  have h1 := numericN_is2 k
  by_cases h : 0 ≤ wireP k (-1)
  · (refine FC.vc (((EnvOk.none.addF g_cartoucheref3_Wire_ok : EnvOk Tryd.prog { fc := [(i_cartoucheref3_Wire, g_cartoucheref3_Wire)] }))) F_cartoucheref3_Numeric T_cartoucheref3_Numeric L_cartoucheref3_Numeric ?_; unfold A_cartoucheref3_Numeric; simp only [args0, zl0, zl1, zl2, zl3, zn1])
    (simp -implicitDefEqProofs +contextual (maxSteps := 8000000) only [go_sem, ↓reduceIte, zn0, zn1, zn2, zn3, zn4, reduceCtorEq, zn5, zi0, zi1, zi2, zi3, zi4, zn6, zn7, zn8, zn9, i_cartoucheref3_Wire, g_cartoucheref3_Wire_is, h])
    rw [← h1]; simp [h]
  · (refine FC.vc (((EnvOk.none.addF g_cartoucheref3_Wire_ok : EnvOk Tryd.prog { fc := [(i_cartoucheref3_Wire, g_cartoucheref3_Wire)] }))) F_cartoucheref3_Numeric T_cartoucheref3_Numeric L_cartoucheref3_Numeric ?_; unfold A_cartoucheref3_Numeric; simp only [args0, zl0, zl1, zl2, zl3, zn1])
    (simp -implicitDefEqProofs +contextual (maxSteps := 8000000) only [go_sem, ↓reduceIte, zn0, zn1, zn2, zn3, zn4, reduceCtorEq, zn5, zi0, zi1, zi2, zi3, zi4, zn6, zn7, zn8, zn9, i_cartoucheref3_Wire, g_cartoucheref3_Wire_is, h])
    rw [← h1]; simp [h]
def g_lex_named : List IV → Option IV
  | [.str s, .int .i64 at_] => if s.size ≤ 2000000 ∧ at_ = 0 then some (.int .i64 (runL s.data.toList : Int)) else none
  | _ => none
theorem g_lex_named_is (s : ByteArray) (at_ : Int) : g_lex_named [.str s, .int .i64 at_] = if s.size ≤ 2000000 ∧ at_ = 0 then some (.int .i64 (runL s.data.toList : Int)) else none := by
  simp only [g_lex_named]
theorem g_lex_named_ok : ∀ xs r, g_lex_named xs = some r → FC Tryd.prog i_lex_named xs (· = r) := by
  intro xs r h
  unfold g_lex_named at h
  split at h
  · rename_i s at_
    split at h
    · rename_i hpre
      injection h with h; subst h
      obtain ⟨h1, rfl⟩ := hpre
      exact lex_named_fc s h1
    · cases h
  · cases h

def g_scalar_Numeric : List IV → Option IV
  | [.int .i64 k] => some (.bool (numericN k))
  | _ => none
theorem g_scalar_Numeric_is (k : Int) : g_scalar_Numeric [.int .i64 k] = some (.bool (numericN k)) := by
  simp only [g_scalar_Numeric]
theorem g_scalar_Numeric_ok : ∀ xs r, g_scalar_Numeric xs = some r → FC Tryd.prog i_scalar_Numeric xs (· = r) := by
  intro xs r h
  unfold g_scalar_Numeric at h
  split at h
  · rename_i k
    injection h with h; subst h
    exact scalar_Numeric_fc k
  · cases h

def g_cartoucheref3_Numeric : List IV → Option IV
  | [.int .i64 k] => some (.bool (numericN k))
  | _ => none
theorem g_cartoucheref3_Numeric_is (k : Int) : g_cartoucheref3_Numeric [.int .i64 k] = some (.bool (numericN k)) := by
  simp only [g_cartoucheref3_Numeric]
theorem g_cartoucheref3_Numeric_ok : ∀ xs r, g_cartoucheref3_Numeric xs = some r → FC Tryd.prog i_cartoucheref3_Numeric xs (· = r) := by
  intro xs r h
  unfold g_cartoucheref3_Numeric at h
  split at h
  · rename_i k
    injection h with h; subst h
    exact ref3_Numeric_fc k
  · cases h

def envNm : Env := { fc := [(i_lex_letter, g_lex_letter), (i_lex_named, g_lex_named)] }
theorem envNm_ok : EnvOk Tryd.prog envNm := (EnvOk.none.addF g_lex_named_ok).addF g_lex_letter_ok
theorem nameB_at {s : ByteArray} {c : UInt8} (h : s.data.toList[0]? = some c) : nameB s = (letN c.toNat && s.data.toList.all wordN) := by
  unfold nameB nameL
  cases hl : s.data.toList with
  | nil => rw [hl] at h; cases h
  | cons a r => rw [hl] at h; simp at h; subst h; rfl
theorem nameB_nil {s : ByteArray} (h : s.size = 0) : nameB s = false := by
  rw [size_list] at h
  unfold nameB nameL
  rw [List.eq_nil_of_length_eq_zero h]; rfl
theorem lex_IsName_fc (s : ByteArray) (hs : s.size ≤ 2000000) : FC Tryd.prog i_lex_IsName [.str s] (· = .bool (nameB s)) := by
  (refine FC.vc (envNm_ok) F_lex_IsName T_lex_IsName L_lex_IsName ?_; unfold A_lex_IsName; simp only [args0, zl0, zl1, zl2, zl3, zn1])
  (simp -implicitDefEqProofs +contextual (maxSteps := 8000000) only [go_sem, ↓reduceIte, zn0, zn1, zn2, zn3, zn4, reduceCtorEq, zn5, zi0, zi1, zi2, zi3, zi4, zn6, zn7, zn8, zn9, envNm, i_lex_letter, i_lex_named, g_lex_letter_is, g_lex_named_is, hs])
  refine ⟨fun hne => ?_, fun he => (nameB_nil (s := { data := #[] }) rfl).symm⟩
  have hpos : 0 < s.size := by
    rcases Nat.eq_zero_or_pos s.size with h | h
    · exact absurd (by cases s; rename_i d; simp [ByteArray.size] at h; simp [h]) hne
    · exact h
  refine ⟨by omega, fun z hz => ⟨fun h1 => ?_, fun h1 => ?_⟩⟩
  · rw [nameB_at hz, h1, size_list, runL_all]; rfl
  · rw [nameB_at hz, h1]; rfl
def envR4 : Env := { fc := [(i_cartoucheref4_letter, g_cartoucheref4_letter), (i_cartoucheref4_digit, g_cartoucheref4_digit)] }
theorem envR4_ok : EnvOk Tryd.prog envR4 := (EnvOk.none.addF g_cartoucheref4_digit_ok).addF g_cartoucheref4_letter_ok
theorem take_all {α : Type} {p : α → Bool} {l : List α} {i : Nat} {c : α} (h : (l.take i).all p = true) (hc : l[i]? = some c) (hp : p c = true) : (l.take (i + 1)).all p = true := by
  rw [List.take_add_one, hc]; simp [List.all_append] at h ⊢; exact ⟨h, hp⟩
theorem not_all {α : Type} {p : α → Bool} {l : List α} {i : Nat} {c : α} (hc : l[i]? = some c) (hp : p c = false) : l.all p = false := by
  rw [List.all_eq_false]
  exact ⟨c, List.mem_of_getElem? hc, by simp [hp]⟩
def R4I (s : ByteArray) (n : Nat) (st : St) : Prop := ∃ i : Nat, lk st.ρ 0 = some (.iv (.str s)) ∧ lk st.ρ 3 = some (.iv (.int .i64 (i : Int))) ∧ i ≤ s.size ∧ s.size < i + n ∧ (s.data.toList.take i).all wordN = true
theorem ref4_IsName_fc (s : ByteArray) (hs : s.size ≤ 2000000) : FC Tryd.prog i_cartoucheref4_IsName [.str s] (· = .bool (nameB s)) := by
  have hsz := size_list s
  (refine FC.vc (envR4_ok) F_cartoucheref4_IsName T_cartoucheref4_IsName L_cartoucheref4_IsName ?_; unfold A_cartoucheref4_IsName; simp only [args0, zl0, zl1, zl2, zl3, zn1])
  (simp -implicitDefEqProofs +contextual (maxSteps := 8000000) only [go_sem, ↓reduceIte, zn0, zn1, zn2, zn3, zn4, reduceCtorEq, zn5, zi0, zi1, zi2, zi3, zi4, zn6, zn7, zn8, zn9, envR4, i_cartoucheref4_letter, i_cartoucheref4_digit, g_cartoucheref4_letter_is, g_cartoucheref4_digit_is, hs])
  refine ⟨fun hne => ⟨by omega, fun z hz => ⟨fun h1 => by rw [nameB_at hz, h1]; rfl, fun h1 => ?_⟩⟩, fun he => (nameB_nil he).symm⟩
  refine vc_loop (R4I s) (s.size + 1) ⟨0, by simp [lk], by simp [lk], by omega, by omega, by simp⟩ ?_
  rintro n st ⟨i, h0, h3, g1, g2, g3⟩
  by_cases hi : i < s.size
  · obtain ⟨c, hc⟩ : ∃ c, s.data.toList[i]? = some c := ⟨s.data.toList[i]'(by omega), by rw [List.getElem?_eq_getElem]⟩
    have hw := wrap1 hi (by omega)
    cases hl : letN c.toNat with
    | true =>
      (simp -implicitDefEqProofs +contextual (maxSteps := 8000000) only [go_sem, ↓reduceIte, zn0, zn1, zn2, zn3, zn4, reduceCtorEq, zn5, zi0, zi1, zi2, zi3, zi4, zn6, zn7, zn8, zn9, envR4, i_cartoucheref4_letter, i_cartoucheref4_digit, g_cartoucheref4_letter_is, g_cartoucheref4_digit_is, h0, h3, hi, hc, hw, hl, Option.some.injEq, forall_eq'])
      exact ⟨n - 1, by omega, i + 1, by simp [lk, h0], by simp [lk], by omega, by omega, take_all g3 hc (by simp [wordN, hl])⟩
    | false =>
      cases hg : digN c.toNat with
      | true =>
        (simp -implicitDefEqProofs +contextual (maxSteps := 8000000) only [go_sem, ↓reduceIte, zn0, zn1, zn2, zn3, zn4, reduceCtorEq, zn5, zi0, zi1, zi2, zi3, zi4, zn6, zn7, zn8, zn9, envR4, i_cartoucheref4_letter, i_cartoucheref4_digit, g_cartoucheref4_letter_is, g_cartoucheref4_digit_is, h0, h3, hi, hc, hw, hl, hg, Option.some.injEq, forall_eq'])
        exact ⟨n - 1, by omega, i + 1, by simp [lk, h0], by simp [lk], by omega, by omega, take_all g3 hc (by simp [wordN, hl, hg])⟩
      | false =>
        (simp -implicitDefEqProofs +contextual (maxSteps := 8000000) only [go_sem, ↓reduceIte, zn0, zn1, zn2, zn3, zn4, reduceCtorEq, zn5, zi0, zi1, zi2, zi3, zi4, zn6, zn7, zn8, zn9, envR4, i_cartoucheref4_letter, i_cartoucheref4_digit, g_cartoucheref4_letter_is, g_cartoucheref4_digit_is, h0, h3, hi, hc, hw, hl, hg, Option.some.injEq, forall_eq'])
        rw [nameB_at hz, not_all hc (by simp [wordN, hl, hg])]; simp
  · (simp -implicitDefEqProofs +contextual (maxSteps := 8000000) only [go_sem, ↓reduceIte, zn0, zn1, zn2, zn3, zn4, reduceCtorEq, zn5, zi0, zi1, zi2, zi3, zi4, zn6, zn7, zn8, zn9, envR4, i_cartoucheref4_letter, i_cartoucheref4_digit, g_cartoucheref4_letter_is, g_cartoucheref4_digit_is, h0, h3, hi])
    rw [List.take_of_length_le (by omega)] at g3
    rw [nameB_at hz, h1, g3]; rfl
theorem get_map {α β : Type} {f : α → β} {l : List α} {i : Nat} {a : α} (h : l[i]? = some a) : (l.map f)[i]? = some (f a) := by simp [h]
theorem table_sort_fc (t : List Ty) (i : Int) (e : Bool) : FC Tryd.prog i_table_sort [encTable t, .int .i64 i, .bool e] (· = .bool (sortB t i e)) := by
  by_cases h0 : 0 ≤ i
  · by_cases h1 : i < t.length
    · obtain ⟨x, hx⟩ : ∃ x, t[i.toNat]? = some x := ⟨t[i.toNat]'(by omega), by rw [List.getElem?_eq_getElem]⟩
      have hm := get_map (f := encTy) hx
      simp only [encTy] at hm
      (refine FC.vc (EnvOk.none) F_table_sort T_table_sort L_table_sort ?_; unfold A_table_sort; simp only [args0, zl0, zl1, zl2, zl3, zn1])
      (simp -implicitDefEqProofs +contextual (maxSteps := 8000000) only [go_sem, ↓reduceIte, zn0, zn1, zn2, zn3, zn4, reduceCtorEq, zn5, zi0, zi1, zi2, zi3, zi4, zn6, zn7, zn8, zn9, encTable, h0, h1, hm, forall_eq'])
      simp [sortB, h0, hx]
    · (refine FC.vc (EnvOk.none) F_table_sort T_table_sort L_table_sort ?_; unfold A_table_sort; simp only [args0, zl0, zl1, zl2, zl3, zn1])
      (simp -implicitDefEqProofs +contextual (maxSteps := 8000000) only [go_sem, ↓reduceIte, zn0, zn1, zn2, zn3, zn4, reduceCtorEq, zn5, zi0, zi1, zi2, zi3, zi4, zn6, zn7, zn8, zn9, encTable, h0, h1])
      have : t[i.toNat]? = none := by simp; omega
      simp [sortB, this]
  · (refine FC.vc (EnvOk.none) F_table_sort T_table_sort L_table_sort ?_; unfold A_table_sort; simp only [args0, zl0, zl1, zl2, zl3, zn1])
    (simp -implicitDefEqProofs +contextual (maxSteps := 8000000) only [go_sem, ↓reduceIte, zn0, zn1, zn2, zn3, zn4, reduceCtorEq, zn5, zi0, zi1, zi2, zi3, zi4, zn6, zn7, zn8, zn9, encTable, h0])
    simp [sortB, h0]
def RsI (x : Ty) (m : Int) (n : Nat) (st : St) : Prop := ∃ i : Nat, lk st.ρ 1 = some (.iv (.int .i64 m)) ∧ lk st.ρ 8 = some (.iv (.slice (x.rsv.map encRng))) ∧ lk st.ρ 9 = some (.iv (.int .i64 (x.rsv.length : Int))) ∧ lk st.ρ 10 = some (.iv (.int .i64 (i : Int))) ∧ i ≤ x.rsv.length ∧ x.rsv.length < i + n ∧ (x.rsv.drop i).any (fun r => decide (r.low ≤ m ∧ m ≤ r.high)) = rsvIn x.rsv m
theorem reserved_fc (x : Ty) (m : Int) (hx : x.rsv.length ≤ 2000000) : FC Tryd.prog i_table_reserved [encTy x, .int .i64 m] (· = .bool (rsvIn x.rsv m)) := by
  (refine FC.vc (EnvOk.none) F_table_reserved T_table_reserved L_table_reserved ?_; unfold A_table_reserved; simp only [args0, zl0, zl1, zl2, zl3, zn1])
  (simp -implicitDefEqProofs +contextual (maxSteps := 8000000) only [go_sem, ↓reduceIte, zn0, zn1, zn2, zn3, zn4, reduceCtorEq, zn5, zi0, zi1, zi2, zi3, zi4, zn6, zn7, zn8, zn9, encTy])
  refine vc_loop (RsI x m) (x.rsv.length + 1) ⟨0, by simp [lk], by simp [lk], by simp [lk], by simp [lk], by omega, by omega, by simp [rsvIn]⟩ ?_
  rintro n st ⟨i, h1, h8, h9, h10, g1, g2, g3⟩
  by_cases hi : i < x.rsv.length
  · obtain ⟨r, hr⟩ : ∃ r, x.rsv[i]? = some r := ⟨x.rsv[i], by simp [hi]⟩
    have hm := get_map (f := encRng) hr
    simp only [encRng] at hm
    have hw := wrap1 hi (by omega)
    rw [drop_at hr, List.any_cons] at g3
    by_cases c1 : r.low ≤ m
    all_goals by_cases c2 : m ≤ r.high
    all_goals
      rcases hz : lk st.σ 0 with _ | ⟨v0, it0⟩
      all_goals
        (simp -implicitDefEqProofs +contextual (maxSteps := 8000000) only [go_sem, ↓reduceIte, zn0, zn1, zn2, zn3, zn4, reduceCtorEq, zn5, zi0, zi1, zi2, zi3, zi4, zn6, zn7, zn8, zn9, h1, h8, h9, h10, hi, hm, hw, hz, nxt, forall_eq', c1, c2])
        first
          | (rw [← g3]; simp [c1, c2]; done)
          | exact ⟨n - 1, by omega, i + 1, by simp [lk, h1], by simp [lk, h8], by simp [lk, h9], by simp [lk], by omega, by omega, by rw [← g3]; simp [c1, c2]⟩
  · (simp -implicitDefEqProofs +contextual (maxSteps := 8000000) only [go_sem, ↓reduceIte, zn0, zn1, zn2, zn3, zn4, reduceCtorEq, zn5, zi0, zi1, zi2, zi3, zi4, zn6, zn7, zn8, zn9, h1, h8, h9, h10, hi])
    rw [List.drop_eq_nil_of_le (by omega)] at g3
    exact g3
def addσ (σ : Slots) (k n : Nat) (l : List ByteArray) : Slots := upd (upd σ 90 (nxt σ 90, .box [])) k (n, .map .str (encNames (.agg []) l))
theorem named_add_new {σ : Slots} {k n : Nat} {l : List ByteArray} {s : ByteArray} (hk : ¬ 90 = k) (h : lk σ k = some (n, .map .str (encNames (.agg []) l))) (hs : s ∉ l) :
    GC Tryd.prog i_table_named_add [.mp k n, .iv (.str s)] σ (fun r σ' => r = .iv (.bool true) ∧ σ' = addσ σ k n (l ++ [s])) := by
  refine GC.vc EnvOk.none F_table_named_add T_table_named_add L_table_named_add ?_
  unfold A_table_named_add; simp only [args0, zl0, zl1, zl2, zl3, zn1]
  have h0 := mfind_none (v := .agg []) 0 hs
  have h2 := mput_new (v := .agg []) hs
  (simp -implicitDefEqProofs +contextual (maxSteps := 8000000) only [go_sem, ↓reduceIte, zn0, zn1, zn2, zn3, zn4, reduceCtorEq, zn5, zi0, zi1, zi2, zi3, zi4, zn6, zn7, zn8, zn9, h, hk, h0, h2, addσ])
  rw [upd_upd]
theorem named_add_old {σ : Slots} {k n : Nat} {l : List ByteArray} {s : ByteArray} (h : lk σ k = some (n, .map .str (encNames (.agg []) l))) (hs : s ∈ l) :
    GC Tryd.prog i_table_named_add [.mp k n, .iv (.str s)] σ (fun r σ' => r = .iv (.bool false) ∧ σ' = upd σ 90 (nxt σ 90, .box [])) := by
  refine GC.vc EnvOk.none F_table_named_add T_table_named_add L_table_named_add ?_
  unfold A_table_named_add; simp only [args0, zl0, zl1, zl2, zl3, zn1]
  obtain ⟨j, h0⟩ := mfind_some (v := .agg []) 0 hs
  (simp -implicitDefEqProofs +contextual (maxSteps := 8000000) only [go_sem, ↓reduceIte, zn0, zn1, zn2, zn3, zn4, reduceCtorEq, zn5, zi0, zi1, zi2, zi3, zi4, zn6, zn7, zn8, zn9, h, h0])
  rw [upd_upd]
def decNames : List (IV × TV) → Option (List ByteArray)
  | [] => some []
  | (.str s, .iv (.agg [])) :: l => match decNames l with
    | some r => some (s :: r)
    | none => none
  | _ => none
theorem decNames_enc : ∀ (l : List ByteArray), decNames (encNames (.agg []) l) = some l
  | [] => rfl
  | s :: l => by
    have := decNames_enc l
    simp only [encNames] at this
    simp only [encNames, List.map_cons, decNames, this]
theorem decNames_inv : ∀ {es : List (IV × TV)} {l : List ByteArray}, decNames es = some l → es = encNames (.agg []) l
  | [], l, h => by simp [decNames] at h; subst h; rfl
  | e :: es, l, h => by
    unfold decNames at h
    split at h
    · rename_i heq; cases heq
    · rename_i s l' heq
      injection heq with h1 h2; subst h1; subst h2
      split at h
      · rename_i r hr
        injection h with h; subst h
        rw [decNames_inv hr]; simp [encNames]
      · cases h
    · cases h
open Classical in
noncomputable def g_named_add : List TV → Slots → Option (TV × Slots)
  | [.mp k n, .iv (.str s)], σ => if 90 = k then none else match lk σ k with
    | some (n', .map .str es) => match decNames es with
      | some l => if n = n' then (if s ∈ l then some (.iv (.bool false), upd σ 90 (nxt σ 90, .box [])) else some (.iv (.bool true), addσ σ k n (l ++ [s]))) else none
      | none => none
    | _ => none
  | _, _ => none
theorem g_named_add_ok : ∀ vs σ r σ', g_named_add vs σ = some (r, σ') → GC Tryd.prog i_table_named_add vs σ (fun r' σ'' => r' = r ∧ σ'' = σ') := by
  intro vs σ r σ' h
  unfold g_named_add at h
  split at h
  · rename_i k n s
    split at h
    · cases h
    · rename_i hk
      split at h
      · rename_i n' es hl
        split at h
        · rename_i l hd
          have := decNames_inv hd; subst this
          split at h
          · rename_i hn; subst hn
            split at h
            · rename_i hs
              simp only [Option.some.injEq, Prod.mk.injEq] at h
              obtain ⟨rfl, rfl⟩ := h
              exact named_add_old hl hs
            · rename_i hs
              simp only [Option.some.injEq, Prod.mk.injEq] at h
              obtain ⟨rfl, rfl⟩ := h
              exact named_add_new hk hl hs
          · cases h
        · cases h
      · cases h
  · cases h
theorem g_named_add_new {σ : Slots} {k n : Nat} {l : List ByteArray} {s : ByteArray} (hk : ¬ 90 = k) (h : lk σ k = some (n, .map .str (encNames (.agg []) l))) (hs : s ∉ l) :
    g_named_add [.mp k n, .iv (.str s)] σ = some (.iv (.bool true), addσ σ k n (l ++ [s])) := by
  simp only [g_named_add, if_neg hk, h, decNames_enc, if_true, if_neg hs]
theorem g_named_add_old {σ : Slots} {k n : Nat} {l : List ByteArray} {s : ByteArray} (hk : ¬ 90 = k) (h : lk σ k = some (n, .map .str (encNames (.agg []) l))) (hs : s ∈ l) :
    g_named_add [.mp k n, .iv (.str s)] σ = some (.iv (.bool false), upd σ 90 (nxt σ 90, .box [])) := by
  simp only [g_named_add, if_neg hk, h, decNames_enc, if_true, if_pos hs]
end Go.Proofs.YtmdkcapbahjipaaDoor.Ag
namespace Go.Proofs.YtmdkcapbahjipaaDoor.Ag
noncomputable def g_lex_IsName : List IV → Option IV
  | [.str s] => if s.size ≤ 2000000 then some (.bool (nameB s)) else none
  | _ => none
theorem g_lex_IsName_is (s : ByteArray) : g_lex_IsName [.str s] = if s.size ≤ 2000000 then some (.bool (nameB s)) else none := by
  simp only [g_lex_IsName]
theorem g_lex_IsName_ok : ∀ xs r, g_lex_IsName xs = some r → FC Tryd.prog i_lex_IsName xs (· = r) := by
  intro xs r h
  unfold g_lex_IsName at h
  split at h
  · rename_i s
    split at h
    · rename_i hpre
      injection h with h; subst h
      exact lex_IsName_fc s hpre
    · cases h
  · cases h

noncomputable def g_cartoucheref4_IsName : List IV → Option IV
  | [.str s] => if s.size ≤ 2000000 then some (.bool (nameB s)) else none
  | _ => none
theorem g_cartoucheref4_IsName_is (s : ByteArray) : g_cartoucheref4_IsName [.str s] = if s.size ≤ 2000000 then some (.bool (nameB s)) else none := by
  simp only [g_cartoucheref4_IsName]
theorem g_cartoucheref4_IsName_ok : ∀ xs r, g_cartoucheref4_IsName xs = some r → FC Tryd.prog i_cartoucheref4_IsName xs (· = r) := by
  intro xs r h
  unfold g_cartoucheref4_IsName at h
  split at h
  · rename_i s
    split at h
    · rename_i hpre
      injection h with h; subst h
      exact ref4_IsName_fc s hpre
    · cases h
  · cases h

noncomputable def g_table_sort : List IV → Option IV
  | [t_, .int .i64 i, .bool e] => (match decTable t_ with
    | some t => some (.bool (sortB t i e))
    | none => none)
  | _ => none
theorem g_table_sort_is (t : List Ty) (i : Int) (e : Bool) : g_table_sort [encTable t, .int .i64 i, .bool e] = some (.bool (sortB t i e)) := by
  simp only [g_table_sort, decTable_enc]
theorem g_table_sort_ok : ∀ xs r, g_table_sort xs = some r → FC Tryd.prog i_table_sort xs (· = r) := by
  intro xs r h
  unfold g_table_sort at h
  split at h
  · rename_i t_ i e
    split at h
    · rename_i t ht
      injection h with h; subst h
      have := decTable_enc_inv ht; subst this
      exact table_sort_fc t i e
    · cases h
  · cases h

noncomputable def g_table_reserved : List IV → Option IV
  | [x_, .int .i64 m] => (match decTy x_ with
    | some x => if x.rsv.length ≤ 2000000 then some (.bool (rsvIn x.rsv m)) else none
    | none => none)
  | _ => none
theorem g_table_reserved_is (x : Ty) (m : Int) : g_table_reserved [encTy x, .int .i64 m] = if x.rsv.length ≤ 2000000 then some (.bool (rsvIn x.rsv m)) else none := by
  simp only [g_table_reserved, decTy_enc]
theorem g_table_reserved_ok : ∀ xs r, g_table_reserved xs = some r → FC Tryd.prog i_table_reserved xs (· = r) := by
  intro xs r h
  unfold g_table_reserved at h
  split at h
  · rename_i x_ m
    split at h
    · rename_i x hx
      split at h
      · rename_i hpre
        injection h with h; subst h
        have := decTy_enc_inv hx; subst this
        exact reserved_fc x m hpre
      · cases h
    · cases h
  · cases h

end Go.Proofs.YtmdkcapbahjipaaDoor.Ag
