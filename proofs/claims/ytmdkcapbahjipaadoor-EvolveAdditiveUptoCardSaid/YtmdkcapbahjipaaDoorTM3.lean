/- Messages' types that are good, by the program -/
import Derived.Test.YtmdkcapbahjipaaDoorTM2
set_option linter.unusedVariables false
set_option linter.unusedSimpArgs false
set_option maxRecDepth 100000
set_option maxHeartbeats 8000000
open List renaming map_cons → zl0, map_nil → zl1, zipIdx_cons → zl2, zipIdx_nil → zl3
open Nat renaming reduceEqDiff → zn0, reduceAdd → zn1, reduceSub → zn2, reduceLeDiff → zn3, reduceMul → zn4, reduceBEq → zn5, reducePow → zn6, reduceLT → zn7, reduceDiv → zn8, reduceMod → zn9
open Int renaming reduceLT → zi0, reduceLE → zi1, reduceNeg → zi2, reduceEq → zi3, reduceToNat → zi4
namespace Go.Proofs.YtmdkcapbahjipaaDoor.Ag
attribute [-go_sem] Int.not_lt Int.not_le
noncomputable def envGm : Env := { split := true, fc := [(i_lex_IsName, g_lex_IsName), (i_table_reserved, g_table_reserved), (i_table_goodField, g_table_goodField)], gc := [(i_table_named_add, g_named_add)] }
theorem envGm_ok : EnvOk Tryd.prog envGm := (((EnvOk.noneS.addF g_table_goodField_ok).addF g_table_reserved_ok).addF g_lex_IsName_ok).addG g_named_add_ok
structure MgB (t : List Ty) (x : Ty) (a c : Nat) (nm : List ByteArray) (ms : List IV) (st : St) : Prop where
  h2 : lk st.ρ 2 = some (.iv (.ref (encTable t)))
  h3 : lk st.ρ 3 = some (.iv (.ref (encTy x)))
  h5 : lk st.ρ 5 = some (.mp 0 a)
  h6 : lk st.ρ 6 = some (.lst 1 c)
  k0 : lk st.σ 0 = some (a, .map .str (encNames (.agg []) nm))
  k1 : lk st.σ 1 = some (c, .list 3 1 ms)
  ok : ∀ n ∈ nm, nameB n = true
  nd : nm.Nodup
def Mg1 (t : List Ty) (x : Ty) (n : Nat) (st : St) : Prop := ∃ i a c : Nat, MgB t x a c (x.oneofs.take i) (List.replicate x.oneofs.length (.int .i64 0)) st ∧ lk st.ρ 38 = some (.iv (.slice (x.oneofs.map .str))) ∧ lk st.ρ 39 = some (.iv (.int .i64 (x.oneofs.length : Int))) ∧ lk st.ρ 40 = some (.iv (.int .i64 (i : Int))) ∧ i ≤ x.oneofs.length ∧ x.oneofs.length < i + n
def RsvUp (l : List Rng) (i : Nat) : Prop := ∀ (q : Nat) (r : Rng), q < i → l[q]? = some r → 1 ≤ r.low ∧ r.high ≤ 536870911 ∧ r.low ≤ r.high ∧ ∀ p : Rng, 0 < q → l[q - 1]? = some p → p.high < r.low
theorem RsvUp.all {l : List Rng} (h : RsvUp l l.length) : RsvOk l := fun i r hr => h i r (List.getElem?_eq_some_iff.1 hr).1 hr
def Mg2 (t : List Ty) (x : Ty) (n : Nat) (st : St) : Prop := ∃ i a c : Nat, MgB t x a c x.oneofs (List.replicate x.oneofs.length (.int .i64 0)) st ∧ lk st.ρ 55 = some (.iv (.slice (x.rsv.map encRng))) ∧ lk st.ρ 56 = some (.iv (.int .i64 (x.rsv.length : Int))) ∧ lk st.ρ 57 = some (.iv (.int .i64 (i : Int))) ∧ i ≤ x.rsv.length ∧ x.rsv.length < i + n ∧ RsvUp x.rsv i
def FldUp (t : List Ty) (x : Ty) (i : Nat) : Prop := ∀ (q : Nat) (f : FT), q < i → x.fields[q]? = some f → FieldOk t x q f
def lastN (l : List FT) : Nat → Int
  | 0 => 0
  | i + 1 => match l[i]? with | some f => f.number | none => 0
theorem FldUp.next {t : List Ty} {x : Ty} {i : Nat} {f : FT} (h : FldUp t x i) (hf : x.fields[i]? = some f) (h1 : ¬ f.number ≤ lastN x.fields i) (h2 : ¬ 536870911 < f.number) (h3 : rsvIn x.rsv f.number = false) (h4 : fieldB t x f = true) : FldUp t x (i + 1) := by
  intro q g hq hg
  by_cases e : q = i
  · subst e
    rw [hf] at hg; injection hg with hg; subst hg
    have key : 1 ≤ f.number ∧ ∀ p : FT, 0 < q → x.fields[q - 1]? = some p → p.number < f.number := by
      cases q with
      | zero => simp only [lastN] at h1; exact ⟨by omega, fun p h0 => absurd h0 (by omega)⟩
      | succ q =>
        have hlt := (List.getElem?_eq_some_iff.1 hf).1
        obtain ⟨p, hp⟩ : ∃ p, x.fields[q]? = some p := ⟨x.fields[q]'(by omega), by rw [List.getElem?_eq_getElem]⟩
        simp only [lastN, hp] at h1
        have := (h q p (by omega) hp).1
        refine ⟨by omega, fun p' _ hp' => ?_⟩
        simp only [Nat.add_sub_cancel] at hp'
        rw [hp] at hp'; injection hp' with hp'; subst hp'; omega
    exact ⟨key.1, by omega, h3, h4, key.2⟩
  · exact h q g (by omega) hg
theorem FieldOk.last {t : List Ty} {x : Ty} {i : Nat} {f : FT} (h : FieldOk t x i f) : ¬ f.number ≤ lastN x.fields i := by
  cases i with
  | zero => have := h.1; simp only [lastN]; omega
  | succ i =>
    simp only [lastN]
    split
    · rename_i p hp
      have := h.2.2.2.2 p (by omega) (by simpa using hp)
      omega
    · have := h.1; omega
theorem fieldB_one {t : List Ty} {x : Ty} {f : FT} (h : fieldB t x f = true) (h4 : f.label = 4) : 0 ≤ f.oneof ∧ f.oneof < x.oneofs.length := by
  unfold fieldB at h
  simp [h4] at h
  exact ⟨h.2.1.1, h.2.1.2⟩
def Mg3 (t : List Ty) (x : Ty) (n : Nat) (st : St) : Prop := ∃ i a c : Nat, MgB t x a c (x.oneofs ++ (x.fields.take i).map FT.name) (encCnt (x.fields.take i) x.oneofs.length) st ∧ lk st.ρ 95 = some (.iv (.slice (x.fields.map encFT))) ∧ lk st.ρ 96 = some (.iv (.int .i64 (x.fields.length : Int))) ∧ lk st.ρ 97 = some (.iv (.int .i64 (i : Int))) ∧ lk st.ρ 11 = some (.iv (.int .i64 (lastN x.fields i))) ∧ i ≤ x.fields.length ∧ x.fields.length < i + n ∧ FldUp t x i
def Mg4 (t : List Ty) (x : Ty) (n : Nat) (st : St) : Prop := ∃ i c : Nat, lk st.ρ 149 = some (.lst 1 c) ∧ lk st.ρ 150 = some (.iv (.int .i64 (x.oneofs.length : Int))) ∧ lk st.ρ 151 = some (.iv (.int .i64 (i : Int))) ∧ lk st.σ 1 = some (c, .list 3 1 (encCnt x.fields x.oneofs.length)) ∧ i ≤ x.oneofs.length ∧ x.oneofs.length < i + n ∧ ∀ q : Nat, q < i → cnt x.fields q ≠ 0
theorem not_nodup' {α : Type} {l : List α} {i : Nat} {s : α} (hs : l[i]? = some s) (h : s ∈ l.take i) : ¬ l.Nodup := by
  have := not_nodup (f := id) hs (by simpa using h)
  simpa using this
theorem nm_get1 {x : Ty} {i : Nat} {y : ByteArray} (h : x.oneofs[i]? = some y) : (names x)[i]? = some y := by
  have := (List.getElem?_eq_some_iff.1 h).1
  rw [names, List.getElem?_append_left this]; exact h
theorem nm_take1 {x : Ty} {i : Nat} (h : i ≤ x.oneofs.length) : (names x).take i = x.oneofs.take i := by
  rw [names, List.take_append_of_le_length h]
theorem nm_get2 {x : Ty} {i : Nat} {f : FT} (h : x.fields[i]? = some f) : (names x)[x.oneofs.length + i]? = some f.name := by
  rw [names, List.getElem?_append_right (by omega)]; simp [h]
theorem nm_take2 (x : Ty) (i : Nat) : (names x).take (x.oneofs.length + i) = x.oneofs ++ (x.fields.take i).map FT.name := by
  rw [names, List.take_append, List.take_of_length_le (by omega), List.map_take]; simp
theorem mem_snoc {l : List ByteArray} {s : ByteArray} (h : ∀ n ∈ l, nameB n = true) (hs : nameB s = true) : ∀ n ∈ l ++ [s], nameB n = true := by
  intro n hn
  rcases List.mem_append.1 hn with hn | hn
  · exact h n hn
  · simp at hn; subst hn; exact hs
theorem flat_cnt (l : List FT) (n : Nat) : flat (encCnt l n) = encCnt l n := by
  unfold encCnt flat
  rw [List.flatMap_map]
  induction List.range n with
  | nil => rfl
  | cons a r ih => rw [List.flatMap_cons, List.map_cons, ih]; rfl
theorem goodMessage_fc (t : List Ty) (x : Ty) (hx : okTy x) : FC Tryd.prog i_table_goodMessage [encTable t, encTy x] (· = .bool (dec (MsgOk t x))) := by
  obtain ⟨z1, z2, z3, z4, z5, z6, z7, z8⟩ := hx
  by_cases c1 : 0 < (x.syms.length : Int)
  · (refine FC.vc (envGm_ok) F_table_goodMessage T_table_goodMessage L_table_goodMessage ?_; unfold A_table_goodMessage; simp only [args0, zl0, zl1, zl2, zl3, zn1])
    (simp -implicitDefEqProofs +contextual (maxSteps := 8000000) only [go_sem, ↓reduceIte, zn0, zn1, zn2, zn3, zn4, reduceCtorEq, zn5, zi0, zi1, zi2, zi3, zi4, zn6, zn7, zn8, zn9, encTable, encTy, encFT, envGm, i_lex_IsName, i_table_named_add, i_table_reserved, i_table_goodField, g_lex_IsName_is, addσ, List.length_replicate, encCnt_len, c1])
    exact (dec_false fun h => by have := h.1; omega).symm
  by_cases c2 : 128 < (x.fields.length : Int)
  · (refine FC.vc (envGm_ok) F_table_goodMessage T_table_goodMessage L_table_goodMessage ?_; unfold A_table_goodMessage; simp only [args0, zl0, zl1, zl2, zl3, zn1])
    (simp -implicitDefEqProofs +contextual (maxSteps := 8000000) only [go_sem, ↓reduceIte, zn0, zn1, zn2, zn3, zn4, reduceCtorEq, zn5, zi0, zi1, zi2, zi3, zi4, zn6, zn7, zn8, zn9, encTable, encTy, encFT, envGm, i_lex_IsName, i_table_named_add, i_table_reserved, i_table_goodField, g_lex_IsName_is, addσ, List.length_replicate, encCnt_len, c1, c2])
    exact (dec_false fun h => by have := h.2.1; omega).symm
  by_cases c3 : 128 < (x.rsv.length : Int)
  · (refine FC.vc (envGm_ok) F_table_goodMessage T_table_goodMessage L_table_goodMessage ?_; unfold A_table_goodMessage; simp only [args0, zl0, zl1, zl2, zl3, zn1])
    (simp -implicitDefEqProofs +contextual (maxSteps := 8000000) only [go_sem, ↓reduceIte, zn0, zn1, zn2, zn3, zn4, reduceCtorEq, zn5, zi0, zi1, zi2, zi3, zi4, zn6, zn7, zn8, zn9, encTable, encTy, encFT, envGm, i_lex_IsName, i_table_named_add, i_table_reserved, i_table_goodField, g_lex_IsName_is, addσ, List.length_replicate, encCnt_len, c1, c2, c3])
    exact (dec_false fun h => by have := h.2.2.1; omega).symm
  have b1 : (x.oneofs.length : Int) * 8 ≤ 140737488355328 := by omega
  (refine FC.vc (envGm_ok) F_table_goodMessage T_table_goodMessage L_table_goodMessage ?_; unfold A_table_goodMessage; simp only [args0, zl0, zl1, zl2, zl3, zn1])
  (simp -implicitDefEqProofs +contextual (maxSteps := 8000000) only [go_sem, ↓reduceIte, zn0, zn1, zn2, zn3, zn4, reduceCtorEq, zn5, zi0, zi1, zi2, zi3, zi4, zn6, zn7, zn8, zn9, encTable, encTy, encFT, envGm, i_lex_IsName, i_table_named_add, i_table_reserved, i_table_goodField, g_lex_IsName_is, addσ, List.length_replicate, encCnt_len, c1, c2, c3, b1, Int.le_refl])
  refine vc_loop (Mg1 t x) (x.oneofs.length + 1) ⟨0, 0, 0, ⟨by simp [lk, encTable], by simp [lk, encTy], by simp [lk], by simp [lk], by simp [lk_upd, encNames, lk], by simp [lk_upd, lk], by simp, by simp⟩, by simp [lk], by simp [lk], by simp [lk], by omega, by omega⟩ ?_
  rintro n st ⟨i, a, c, ⟨h2, h3, h5, h6, k0, k1, hok, hnd⟩, h38, h39, h40, g1, g2⟩
  simp only [encTable] at h2
  simp only [encTy] at h3
  by_cases hi : i < x.oneofs.length
  · obtain ⟨y, hy⟩ : ∃ y, x.oneofs[i]? = some y := ⟨x.oneofs[i], by simp [hi]⟩
    have hm := get_map (f := IV.str) hy
    have hw := wrap1 hi (by omega)
    have hsz := z7 y (List.mem_of_getElem? hy)
    have hlt : (i : Int) < (x.oneofs.length : Int) := by omega
    have hymem : y ∈ names x := List.mem_append_left _ (List.mem_of_getElem? hy)
    by_cases d1 : nameB y = true
    · by_cases d2 : y ∈ x.oneofs.take i
      · have hadd : ∀ σ, lk σ 0 = some (a, .map .str (encNames (.agg []) (x.oneofs.take i))) → g_named_add [.mp 0 a, .iv (.str y)] σ = some (.iv (.bool false), upd σ 90 (nxt σ 90, .box [])) := fun σ h => g_named_add_old (by decide) h d2
        (simp -implicitDefEqProofs +contextual (maxSteps := 8000000) only [go_sem, ↓reduceIte, zn0, zn1, zn2, zn3, zn4, reduceCtorEq, zn5, zi0, zi1, zi2, zi3, zi4, zn6, zn7, zn8, zn9, encTable, encTy, encFT, envGm, i_lex_IsName, i_table_named_add, i_table_reserved, i_table_goodField, g_lex_IsName_is, addσ, List.length_replicate, encCnt_len, h2, h3, h5, h6, k0, k1, h38, h39, h40, hi, hlt, hm, hw, hsz, hadd, d1, forall_eq'])
        exact (dec_false fun h => not_nodup' (nm_get1 hy) (by rw [nm_take1 (by omega)]; exact d2) h.2.2.2.2.1).symm
      · have hadd : ∀ σ, lk σ 0 = some (a, .map .str (encNames (.agg []) (x.oneofs.take i))) → g_named_add [.mp 0 a, .iv (.str y)] σ = some (.iv (.bool true), addσ σ 0 a (x.oneofs.take i ++ [y])) := fun σ h => g_named_add_new (by decide) h d2
        (simp -implicitDefEqProofs +contextual (maxSteps := 8000000) only [go_sem, ↓reduceIte, zn0, zn1, zn2, zn3, zn4, reduceCtorEq, zn5, zi0, zi1, zi2, zi3, zi4, zn6, zn7, zn8, zn9, encTable, encTy, encFT, envGm, i_lex_IsName, i_table_named_add, i_table_reserved, i_table_goodField, g_lex_IsName_is, addσ, List.length_replicate, encCnt_len, h2, h3, h5, h6, k0, k1, h38, h39, h40, hi, hlt, hm, hw, hsz, hadd, d1, forall_eq'])
        have et : x.oneofs.take (i + 1) = x.oneofs.take i ++ [y] := by rw [List.take_add_one, hy]; rfl
        exact ⟨n - 1, by omega, i + 1, a, c, ⟨by simp [lk, h2, encTable], by simp [lk, h3, encTy], by simp [lk, h5], by simp [lk, h6], by simp [lk_upd, et], by simp [lk_upd, k1], by rw [et]; exact mem_snoc hok d1, by rw [et]; exact nodup_snoc hnd d2⟩, by simp [lk, h38], by simp [lk, h39], by simp [lk], by omega, by omega⟩
    · have d1' : nameB y = false := by simpa using d1
      (simp -implicitDefEqProofs +contextual (maxSteps := 8000000) only [go_sem, ↓reduceIte, zn0, zn1, zn2, zn3, zn4, reduceCtorEq, zn5, zi0, zi1, zi2, zi3, zi4, zn6, zn7, zn8, zn9, encTable, encTy, encFT, envGm, i_lex_IsName, i_table_named_add, i_table_reserved, i_table_goodField, g_lex_IsName_is, addσ, List.length_replicate, encCnt_len, h2, h3, h5, h6, k0, k1, h38, h39, h40, hi, hlt, hm, hw, hsz, d1', forall_eq'])
      exact (dec_false fun h => d1 (h.2.2.2.1 y hymem)).symm
  have hlt : ¬ (i : Int) < (x.oneofs.length : Int) := by omega
  rw [List.take_of_length_le (by omega)] at k0 hok hnd
  (simp -implicitDefEqProofs +contextual (maxSteps := 8000000) only [go_sem, ↓reduceIte, zn0, zn1, zn2, zn3, zn4, reduceCtorEq, zn5, zi0, zi1, zi2, zi3, zi4, zn6, zn7, zn8, zn9, encTable, encTy, encFT, envGm, i_lex_IsName, i_table_named_add, i_table_reserved, i_table_goodField, g_lex_IsName_is, addσ, List.length_replicate, encCnt_len, h2, h3, h5, h6, k0, k1, h38, h39, h40, hi, hlt])
  refine vc_loop (Mg2 t x) (x.rsv.length + 1) ⟨0, a, c, ⟨by simp [lk, h2, encTable], by simp [lk, h3, encTy], by simp [lk, h5], by simp [lk, h6], by simp [k0], by simp [k1], hok, hnd⟩, by simp [lk], by simp [lk], by simp [lk], by omega, by omega, fun q r hq => absurd hq (by omega)⟩ ?_
  clear h2 h3 h5 h6 k0 k1 h38 h39 h40 hi hlt g1 g2 i a c st hok hnd
  rintro n st ⟨i, a, c, ⟨h2, h3, h5, h6, k0, k1, hok, hnd⟩, h55, h56, h57, g1, g2, g3⟩
  simp only [encTable] at h2
  simp only [encTy] at h3
  by_cases hi : i < x.rsv.length
  · obtain ⟨r, hr⟩ : ∃ r, x.rsv[i]? = some r := ⟨x.rsv[i], by simp [hi]⟩
    have hm := get_map (f := encRng) hr
    simp only [encRng] at hm
    have hw := wrap1 hi (by omega)
    have hlt : (i : Int) < (x.rsv.length : Int) := by omega
    have no : ¬ (1 ≤ r.low ∧ r.high ≤ 536870911 ∧ r.low ≤ r.high ∧ ∀ p : Rng, 0 < i → x.rsv[i - 1]? = some p → p.high < r.low) → false = dec (MsgOk t x) := fun h => (dec_false fun hM => h (hM.2.2.2.2.2.1 i r hr)).symm
    by_cases d1 : r.low < 1
    · rcases hz : lk st.σ 2 with _ | ⟨v0, it0⟩
      all_goals
        (simp -implicitDefEqProofs +contextual (maxSteps := 8000000) only [go_sem, ↓reduceIte, zn0, zn1, zn2, zn3, zn4, reduceCtorEq, zn5, zi0, zi1, zi2, zi3, zi4, zn6, zn7, zn8, zn9, encTable, encTy, encFT, envGm, i_lex_IsName, i_table_named_add, i_table_reserved, i_table_goodField, g_lex_IsName_is, addσ, List.length_replicate, encCnt_len, h2, h3, h5, h6, k0, k1, h55, h56, h57, hi, hlt, hm, hw, hz, d1, forall_eq'])
        exact no fun h => by omega
    by_cases d2 : 536870911 < r.high
    · rcases hz : lk st.σ 2 with _ | ⟨v0, it0⟩
      all_goals
        (simp -implicitDefEqProofs +contextual (maxSteps := 8000000) only [go_sem, ↓reduceIte, zn0, zn1, zn2, zn3, zn4, reduceCtorEq, zn5, zi0, zi1, zi2, zi3, zi4, zn6, zn7, zn8, zn9, encTable, encTy, encFT, envGm, i_lex_IsName, i_table_named_add, i_table_reserved, i_table_goodField, g_lex_IsName_is, addσ, List.length_replicate, encCnt_len, h2, h3, h5, h6, k0, k1, h55, h56, h57, hi, hlt, hm, hw, hz, d1, d2, forall_eq'])
        exact no fun h => by omega
    by_cases d3 : r.high < r.low
    · rcases hz : lk st.σ 2 with _ | ⟨v0, it0⟩
      all_goals
        (simp -implicitDefEqProofs +contextual (maxSteps := 8000000) only [go_sem, ↓reduceIte, zn0, zn1, zn2, zn3, zn4, reduceCtorEq, zn5, zi0, zi1, zi2, zi3, zi4, zn6, zn7, zn8, zn9, encTable, encTy, encFT, envGm, i_lex_IsName, i_table_named_add, i_table_reserved, i_table_goodField, g_lex_IsName_is, addσ, List.length_replicate, encCnt_len, h2, h3, h5, h6, k0, k1, h55, h56, h57, hi, hlt, hm, hw, hz, d1, d2, d3, forall_eq'])
        exact no fun h => by omega
    have next : ∀ (hp : ∀ p : Rng, 0 < i → x.rsv[i - 1]? = some p → p.high < r.low), RsvUp x.rsv (i + 1) := fun hp q s hq hs => by
      by_cases e : q = i
      · subst e; rw [hr] at hs; injection hs with hs; subst hs
        exact ⟨by omega, by omega, by omega, hp⟩
      · exact g3 q s (by omega) hs
    by_cases d4 : 0 < i
    · obtain ⟨p, hp⟩ : ∃ p, x.rsv[i - 1]? = some p := ⟨x.rsv[i - 1]'(by omega), by rw [List.getElem?_eq_getElem]⟩
      have hmp := get_map (f := encRng) hp
      simp only [encRng] at hmp
      have hw2 : IntKind.i64.wrap ((i : Int) - 1) = ((i - 1 : Nat) : Int) := by rw [wrap_i64 (by omega) (by omega)]; omega
      have d4' : 0 < (i : Int) := by omega
      have hlt2 : ((i - 1 : Nat) : Int) < (x.rsv.length : Int) := by omega
      have hlt3 : (i - 1 : Nat) < x.rsv.length := by omega
      by_cases d5 : r.low ≤ p.high
      · rcases hz : lk st.σ 2 with _ | ⟨v0, it0⟩
        all_goals
          (simp -implicitDefEqProofs +contextual (maxSteps := 8000000) only [go_sem, ↓reduceIte, zn0, zn1, zn2, zn3, zn4, reduceCtorEq, zn5, zi0, zi1, zi2, zi3, zi4, zn6, zn7, zn8, zn9, encTable, encTy, encFT, envGm, i_lex_IsName, i_table_named_add, i_table_reserved, i_table_goodField, g_lex_IsName_is, addσ, List.length_replicate, encCnt_len, h2, h3, h5, h6, k0, k1, h55, h56, h57, hi, hlt, hm, hmp, hw, hw2, hlt2, hlt3, hz, d1, d2, d3, d4, d4', d5, forall_eq'])
          exact no fun h => by have := h.2.2.2 p d4 hp; omega
      · have hn := next fun p' _ hp' => by rw [hp] at hp'; injection hp' with hp'; subst hp'; omega
        rcases hz : lk st.σ 2 with _ | ⟨v0, it0⟩
        all_goals
          (simp -implicitDefEqProofs +contextual (maxSteps := 8000000) only [go_sem, ↓reduceIte, zn0, zn1, zn2, zn3, zn4, reduceCtorEq, zn5, zi0, zi1, zi2, zi3, zi4, zn6, zn7, zn8, zn9, encTable, encTy, encFT, envGm, i_lex_IsName, i_table_named_add, i_table_reserved, i_table_goodField, g_lex_IsName_is, addσ, List.length_replicate, encCnt_len, h2, h3, h5, h6, k0, k1, h55, h56, h57, hi, hlt, hm, hmp, hw, hw2, hlt2, hlt3, hz, d1, d2, d3, d4, d4', d5, forall_eq'])
          exact ⟨n - 1, by omega, i + 1, a, c, ⟨by simp [lk, h2, encTable], by simp [lk, h3, encTy], by simp [lk, h5], by simp [lk, h6], by simp [lk_upd, k0], by simp [lk_upd, k1], hok, hnd⟩, by simp [lk, h55], by simp [lk, h56], by simp [lk], by omega, by omega, hn⟩
    · have hn := next fun p' h0 => absurd h0 d4
      have d4' : ¬ 0 < (i : Int) := by omega
      rcases hz : lk st.σ 2 with _ | ⟨v0, it0⟩
      all_goals
        (simp -implicitDefEqProofs +contextual (maxSteps := 8000000) only [go_sem, ↓reduceIte, zn0, zn1, zn2, zn3, zn4, reduceCtorEq, zn5, zi0, zi1, zi2, zi3, zi4, zn6, zn7, zn8, zn9, encTable, encTy, encFT, envGm, i_lex_IsName, i_table_named_add, i_table_reserved, i_table_goodField, g_lex_IsName_is, addσ, List.length_replicate, encCnt_len, h2, h3, h5, h6, k0, k1, h55, h56, h57, hi, hlt, hm, hw, hz, d1, d2, d3, d4, d4', forall_eq'])
        exact ⟨n - 1, by omega, i + 1, a, c, ⟨by simp [lk, h2, encTable], by simp [lk, h3, encTy], by simp [lk, h5], by simp [lk, h6], by simp [lk_upd, k0], by simp [lk_upd, k1], hok, hnd⟩, by simp [lk, h55], by simp [lk, h56], by simp [lk], by omega, by omega, hn⟩
  have hlt : ¬ (i : Int) < (x.rsv.length : Int) := by omega
  obtain rfl : i = x.rsv.length := by omega
  have hrs := g3.all
  (simp -implicitDefEqProofs +contextual (maxSteps := 8000000) only [go_sem, ↓reduceIte, zn0, zn1, zn2, zn3, zn4, reduceCtorEq, zn5, zi0, zi1, zi2, zi3, zi4, zn6, zn7, zn8, zn9, encTable, encTy, encFT, envGm, i_lex_IsName, i_table_named_add, i_table_reserved, i_table_goodField, g_lex_IsName_is, addσ, List.length_replicate, encCnt_len, h2, h3, h5, h6, k0, k1, h55, h56, h57, hi, hlt])
  refine vc_loop (Mg3 t x) (x.fields.length + 1) ⟨0, a, c, ⟨by simp [lk, h2, encTable], by simp [lk, h3, encTy], by simp [lk, h5], by simp [lk, h6], by simp [k0], by simp [k1, encCnt_nil], by simpa using hok, by simpa using hnd⟩, by simp [lk], by simp [lk], by simp [lk], by simp [lk, lastN], by omega, by omega, fun q r hq => absurd hq (by omega)⟩ ?_
  clear h2 h3 h5 h6 k0 k1 h55 h56 h57 hi hlt g1 g2 a c st hok hnd
  rintro n st ⟨i, a, c, ⟨h2, h3, h5, h6, k0, k1, hok, hnd⟩, h95, h96, h97, h11, g1, g2, g4⟩
  simp only [encTable] at h2
  simp only [encTy] at h3
  by_cases hi : i < x.fields.length
  · obtain ⟨f, hf⟩ : ∃ f, x.fields[i]? = some f := ⟨x.fields[i], by simp [hi]⟩
    have hm := get_map (f := encFT) hf
    simp only [encFT] at hm
    have hw := wrap1 hi (by omega)
    have hsz := z6 f (List.mem_of_getElem? hf)
    have hlt : (i : Int) < (x.fields.length : Int) := by omega
    have hfmem : f.name ∈ names x := List.mem_append_right _ (List.mem_map_of_mem (List.mem_of_getElem? hf))
    have hrsv : ∀ m : Int, g_table_reserved [.agg [.str x.name, .bool x.enum, .slice (x.fields.map encFT), .slice (x.oneofs.map .str), .slice (x.syms.map encSym), .slice (x.rsv.map encRng)], .int .i64 m] = some (.bool (rsvIn x.rsv m)) := fun m => by
      have := g_table_reserved_is x m
      rw [if_pos z5] at this; exact this
    have hgf : g_table_goodField [.agg [.slice (t.map encTy)], .agg [.str x.name, .bool x.enum, .slice (x.fields.map encFT), .slice (x.oneofs.map .str), .slice (x.syms.map encSym), .slice (x.rsv.map encRng)], .agg [.str f.name, .int .i64 f.number, .int .i64 f.kind, .int .i64 f.ref, .int .i64 f.label, .int .i64 f.oneof, .int .i64 f.key]] = some (.bool (fieldB t x f)) := g_table_goodField_is t x f
    have no : ¬ FieldOk t x i f → false = dec (MsgOk t x) := fun h => (dec_false fun hM => h (hM.2.2.2.2.2.2.1 i f hf)).symm
    by_cases d1 : nameB f.name = true
    rotate_left
    · have d1' : nameB f.name = false := by simpa using d1
      rcases hz : lk st.σ 3 with _ | ⟨v0, it0⟩
      all_goals
        (simp -implicitDefEqProofs +contextual (maxSteps := 8000000) only [go_sem, ↓reduceIte, zn0, zn1, zn2, zn3, zn4, reduceCtorEq, zn5, zi0, zi1, zi2, zi3, zi4, zn6, zn7, zn8, zn9, encTable, encTy, encFT, envGm, i_lex_IsName, i_table_named_add, i_table_reserved, i_table_goodField, g_lex_IsName_is, addσ, List.length_replicate, encCnt_len, h2, h3, h5, h6, k0, k1, h95, h96, h97, h11, hi, hlt, hm, hw, hsz, hz, d1', forall_eq'])
        exact (dec_false fun h => d1 (h.2.2.2.1 _ hfmem)).symm
    by_cases d2 : f.name ∈ x.oneofs ++ (x.fields.take i).map FT.name
    · have hadd : ∀ σ, lk σ 0 = some (a, .map .str (encNames (.agg []) (x.oneofs ++ (x.fields.take i).map FT.name))) → g_named_add [.mp 0 a, .iv (.str f.name)] σ = some (.iv (.bool false), upd σ 90 (nxt σ 90, .box [])) := fun σ h => g_named_add_old (by decide) h d2
      rcases hz : lk st.σ 3 with _ | ⟨v0, it0⟩
      all_goals
        (simp -implicitDefEqProofs +contextual (maxSteps := 8000000) only [go_sem, ↓reduceIte, zn0, zn1, zn2, zn3, zn4, reduceCtorEq, zn5, zi0, zi1, zi2, zi3, zi4, zn6, zn7, zn8, zn9, encTable, encTy, encFT, envGm, i_lex_IsName, i_table_named_add, i_table_reserved, i_table_goodField, g_lex_IsName_is, addσ, List.length_replicate, encCnt_len, h2, h3, h5, h6, k0, k1, h95, h96, h97, h11, hi, hlt, hm, hw, hsz, hz, hadd, d1, forall_eq'])
        exact (dec_false fun h => not_nodup' (nm_get2 hf) (by rw [nm_take2]; exact d2) h.2.2.2.2.1).symm
    have hadd : ∀ σ, lk σ 0 = some (a, .map .str (encNames (.agg []) (x.oneofs ++ (x.fields.take i).map FT.name))) → g_named_add [.mp 0 a, .iv (.str f.name)] σ = some (.iv (.bool true), addσ σ 0 a (x.oneofs ++ (x.fields.take i).map FT.name ++ [f.name])) := fun σ h => g_named_add_new (by decide) h d2
    by_cases d3 : f.number ≤ lastN x.fields i
    · rcases hz : lk st.σ 3 with _ | ⟨v0, it0⟩
      all_goals
        (simp -implicitDefEqProofs +contextual (maxSteps := 8000000) only [go_sem, ↓reduceIte, zn0, zn1, zn2, zn3, zn4, reduceCtorEq, zn5, zi0, zi1, zi2, zi3, zi4, zn6, zn7, zn8, zn9, encTable, encTy, encFT, envGm, i_lex_IsName, i_table_named_add, i_table_reserved, i_table_goodField, g_lex_IsName_is, addσ, List.length_replicate, encCnt_len, h2, h3, h5, h6, k0, k1, h95, h96, h97, h11, hi, hlt, hm, hw, hsz, hz, hadd, d1, d3, forall_eq'])
        exact no fun h => h.last d3
    by_cases d4 : 536870911 < f.number
    · rcases hz : lk st.σ 3 with _ | ⟨v0, it0⟩
      all_goals
        (simp -implicitDefEqProofs +contextual (maxSteps := 8000000) only [go_sem, ↓reduceIte, zn0, zn1, zn2, zn3, zn4, reduceCtorEq, zn5, zi0, zi1, zi2, zi3, zi4, zn6, zn7, zn8, zn9, encTable, encTy, encFT, envGm, i_lex_IsName, i_table_named_add, i_table_reserved, i_table_goodField, g_lex_IsName_is, addσ, List.length_replicate, encCnt_len, h2, h3, h5, h6, k0, k1, h95, h96, h97, h11, hi, hlt, hm, hw, hsz, hz, hadd, d1, d3, d4, forall_eq'])
        exact no fun h => by have := h.2.1; omega
    by_cases d5 : rsvIn x.rsv f.number = true
    · rcases hz : lk st.σ 3 with _ | ⟨v0, it0⟩
      all_goals
        (simp -implicitDefEqProofs +contextual (maxSteps := 8000000) only [go_sem, ↓reduceIte, zn0, zn1, zn2, zn3, zn4, reduceCtorEq, zn5, zi0, zi1, zi2, zi3, zi4, zn6, zn7, zn8, zn9, encTable, encTy, encFT, envGm, i_lex_IsName, i_table_named_add, i_table_reserved, i_table_goodField, g_lex_IsName_is, addσ, List.length_replicate, encCnt_len, h2, h3, h5, h6, k0, k1, h95, h96, h97, h11, hi, hlt, hm, hw, hsz, hz, hadd, hrsv, d1, d3, d4, d5, forall_eq'])
        exact no fun h => by have := h.2.2.1; rw [d5] at this; cases this
    have d5' : rsvIn x.rsv f.number = false := by simpa using d5
    by_cases d6 : fieldB t x f = true
    rotate_left
    · have d6' : fieldB t x f = false := by simpa using d6
      rcases hz : lk st.σ 3 with _ | ⟨v0, it0⟩
      all_goals
        (simp -implicitDefEqProofs +contextual (maxSteps := 8000000) only [go_sem, ↓reduceIte, zn0, zn1, zn2, zn3, zn4, reduceCtorEq, zn5, zi0, zi1, zi2, zi3, zi4, zn6, zn7, zn8, zn9, encTable, encTy, encFT, envGm, i_lex_IsName, i_table_named_add, i_table_reserved, i_table_goodField, g_lex_IsName_is, addσ, List.length_replicate, encCnt_len, h2, h3, h5, h6, k0, k1, h95, h96, h97, h11, hi, hlt, hm, hw, hsz, hz, hadd, hrsv, hgf, d1, d3, d4, d5', d6', forall_eq'])
        exact no fun h => d6 h.2.2.2.1
    have hn := g4.next hf d3 d4 d5' d6
    have et : (x.fields.take (i + 1)).map FT.name = (x.fields.take i).map FT.name ++ [f.name] := take_map hf
    have et2 : x.fields.take (i + 1) = x.fields.take i ++ [f] := by rw [List.take_add_one, hf]; rfl
    have el : lastN x.fields (i + 1) = f.number := by simp [lastN, hf]
    have hok2 := mem_snoc hok d1
    have hnd2 := nodup_snoc hnd d2
    rw [List.append_assoc] at hok2 hnd2
    by_cases d7 : f.label = 4
    · obtain ⟨o0, o1⟩ := fieldB_one d6 d7
      obtain ⟨j, hj⟩ : ∃ j : Nat, f.oneof = j := ⟨f.oneof.toNat, by omega⟩
      have hjl : j < x.oneofs.length := by omega
      have hc := encCnt_get (x.fields.take i) hjl
      have hput := encCnt_put (x.fields.take i) f x.oneofs.length j d7 hj
      have hcl := cnt_le (x.fields.take i) j
      have hlen : (x.fields.take i).length ≤ 2000000 := by simp; omega
      have hwc : IntKind.i64.wrap ((cnt (x.fields.take i) j : Int) + 1) = (cnt (x.fields.take i) j : Int) + 1 := wrap_i64 (by omega) (by omega)
      rw [hj, d7] at hgf hm
      have hidx : (0 : Int) ≤ (j : Int) := by omega
      have hfl := flat_cnt (x.fields.take i) x.oneofs.length
      have hcl2 : j + 1 ≤ x.oneofs.length := by omega
      rcases hz : lk st.σ 3 with _ | ⟨v0, it0⟩
      all_goals
        (simp -implicitDefEqProofs +contextual (maxSteps := 8000000) only [go_sem, ↓reduceIte, zn0, zn1, zn2, zn3, zn4, reduceCtorEq, zn5, zi0, zi1, zi2, zi3, zi4, zn6, zn7, zn8, zn9, encTable, encTy, encFT, envGm, i_lex_IsName, i_table_named_add, i_table_reserved, i_table_goodField, g_lex_IsName_is, addσ, List.length_replicate, encCnt_len, h2, h3, h5, h6, k0, k1, h95, h96, h97, h11, hi, hlt, hm, hw, hsz, hz, hadd, hrsv, hgf, d1, d3, d4, d5', d6, d7, hc, hput, hwc, hfl, hcl2, hidx, List.length_map, List.getElem?_map, forall_eq'])
        exact ⟨n - 1, by omega, i + 1, a, c, ⟨by simp [lk, h2, encTable], by simp [lk, h3, encTy], by simp [lk, h5], by simp [lk, h6], by simp [lk_upd, et], by simp [lk_upd, et2, hput], by rw [et]; exact hok2, by rw [et]; exact hnd2⟩, by simp [lk, h95], by simp [lk, h96], by simp [lk], by simp [lk, el], by omega, by omega, hn⟩
    · have hsame := encCnt_same (x.fields.take i) f x.oneofs.length d7
      rcases hz : lk st.σ 3 with _ | ⟨v0, it0⟩
      all_goals
        (simp -implicitDefEqProofs +contextual (maxSteps := 8000000) only [go_sem, ↓reduceIte, zn0, zn1, zn2, zn3, zn4, reduceCtorEq, zn5, zi0, zi1, zi2, zi3, zi4, zn6, zn7, zn8, zn9, encTable, encTy, encFT, envGm, i_lex_IsName, i_table_named_add, i_table_reserved, i_table_goodField, g_lex_IsName_is, addσ, List.length_replicate, encCnt_len, h2, h3, h5, h6, k0, k1, h95, h96, h97, h11, hi, hlt, hm, hw, hsz, hz, hadd, hrsv, hgf, d1, d3, d4, d5', d6, d7, forall_eq'])
        exact ⟨n - 1, by omega, i + 1, a, c, ⟨by simp [lk, h2, encTable], by simp [lk, h3, encTy], by simp [lk, h5], by simp [lk, h6], by simp [lk_upd, et], by simp [lk_upd, k1, et2, hsame], by rw [et]; exact hok2, by rw [et]; exact hnd2⟩, by simp [lk, h95], by simp [lk, h96], by simp [lk], by simp [lk, el], by omega, by omega, hn⟩
  have hlt : ¬ (i : Int) < (x.fields.length : Int) := by omega
  obtain rfl : i = x.fields.length := by omega
  rw [List.take_of_length_le (by omega)] at k1 hok hnd
  have hfo : ∀ (i : Nat) (f : FT), x.fields[i]? = some f → FieldOk t x i f := fun i f hf => g4 i f (List.getElem?_eq_some_iff.1 hf).1 hf
  (simp -implicitDefEqProofs +contextual (maxSteps := 8000000) only [go_sem, ↓reduceIte, zn0, zn1, zn2, zn3, zn4, reduceCtorEq, zn5, zi0, zi1, zi2, zi3, zi4, zn6, zn7, zn8, zn9, encTable, encTy, encFT, envGm, i_lex_IsName, i_table_named_add, i_table_reserved, i_table_goodField, g_lex_IsName_is, addσ, List.length_replicate, encCnt_len, h2, h3, h5, h6, k0, k1, h95, h96, h97, h11, hi, hlt])
  refine vc_loop (Mg4 t x) (x.oneofs.length + 1) ⟨0, c, by simp [lk, h6], by simp [lk], by simp [lk], by simp [k1], by omega, by omega, fun q hq => absurd hq (by omega)⟩ ?_
  clear h2 h3 h5 h6 k0 k1 h95 h96 h97 h11 hi hlt g1 g2 a c st
  rintro n st ⟨i, c, h149, h150, h151, k1, g1, g2, g5⟩
  by_cases hi : i < x.oneofs.length
  · have hc := encCnt_get x.fields hi
    have hw := wrap1 hi (by omega)
    have hlt : (i : Int) < (x.oneofs.length : Int) := by omega
    have hidx : (0 : Int) ≤ (i : Int) := by omega
    have hfl := flat_cnt x.fields x.oneofs.length
    have hcl2 : i + 1 ≤ x.oneofs.length := by omega
    by_cases d1 : cnt x.fields i = 0
    · (simp -implicitDefEqProofs +contextual (maxSteps := 8000000) only [go_sem, ↓reduceIte, zn0, zn1, zn2, zn3, zn4, reduceCtorEq, zn5, zi0, zi1, zi2, zi3, zi4, zn6, zn7, zn8, zn9, encTable, encTy, encFT, envGm, i_lex_IsName, i_table_named_add, i_table_reserved, i_table_goodField, g_lex_IsName_is, addσ, List.length_replicate, encCnt_len, h149, h150, h151, k1, hi, hlt, hw, hc, hfl, hcl2, hidx, d1, List.length_map, List.getElem?_map, forall_eq'])
      exact (dec_false fun h => cnt_pos.2 (h.2.2.2.2.2.2.2 i hi) d1).symm
    · (simp -implicitDefEqProofs +contextual (maxSteps := 8000000) only [go_sem, ↓reduceIte, zn0, zn1, zn2, zn3, zn4, reduceCtorEq, zn5, zi0, zi1, zi2, zi3, zi4, zn6, zn7, zn8, zn9, encTable, encTy, encFT, envGm, i_lex_IsName, i_table_named_add, i_table_reserved, i_table_goodField, g_lex_IsName_is, addσ, List.length_replicate, encCnt_len, h149, h150, h151, k1, hi, hlt, hw, hc, hfl, hcl2, hidx, d1, List.length_map, List.getElem?_map, forall_eq'])
      exact ⟨n - 1, by omega, i + 1, c, by simp [lk, h149], by simp [lk, h150], by simp [lk], by simp [k1], by omega, by omega, fun q hq => by
        by_cases e : q = i
        · subst e; exact d1
        · exact g5 q (by omega)⟩
  have hlt : ¬ (i : Int) < (x.oneofs.length : Int) := by omega
  (simp -implicitDefEqProofs +contextual (maxSteps := 8000000) only [go_sem, ↓reduceIte, zn0, zn1, zn2, zn3, zn4, reduceCtorEq, zn5, zi0, zi1, zi2, zi3, zi4, zn6, zn7, zn8, zn9, encTable, encTy, encFT, envGm, i_lex_IsName, i_table_named_add, i_table_reserved, i_table_goodField, g_lex_IsName_is, addσ, List.length_replicate, encCnt_len, h149, h150, h151, k1, hi, hlt])
  exact (dec_true ⟨by omega, by omega, by omega, hok, hnd, hrs, hfo, fun q hq => cnt_pos.1 (g5 q (by omega))⟩).symm
end Go.Proofs.YtmdkcapbahjipaaDoor.Ag
