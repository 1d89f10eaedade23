/- Messages' types that are good, by the reference -/
import Derived.Test.YtmdkcapbahjipaaDoorTM3
set_option linter.unusedVariables false
set_option linter.unusedSimpArgs false
set_option maxRecDepth 100000
set_option maxHeartbeats 8000000
open List renaming map_cons → zl0, map_nil → zl1, zipIdx_cons → zl2, zipIdx_nil → zl3
open Nat renaming reduceEqDiff → zn0, reduceAdd → zn1, reduceSub → zn2, reduceLeDiff → zn3, reduceMul → zn4, reduceBEq → zn5, reducePow → zn6, reduceLT → zn7, reduceDiv → zn8, reduceMod → zn9
open Int renaming reduceLT → zi0, reduceLE → zi1, reduceNeg → zi2, reduceEq → zi3, reduceToNat → zi4
namespace Go.Proofs.YtmdkcapbahjipaaDoor.Ag
attribute [-go_sem] Int.not_lt Int.not_le
noncomputable def envRm : Env := { split := true, fc := [(i_cartoucheref4_IsName, g_cartoucheref4_IsName), (i_cartoucheref7_field, g_cartoucheref7_field)] }
theorem envRm_ok : EnvOk Tryd.prog envRm := (EnvOk.noneS.addF g_cartoucheref7_field_ok).addF g_cartoucheref4_IsName_ok
structure RmB (t : List Ty) (x : Ty) (v : Nat) (nm : List ByteArray) (st : St) : Prop where
  h2 : lk st.ρ 2 = some (.iv (.ref (encTable t)))
  h3 : lk st.ρ 3 = some (.iv (.ref (encTy x)))
  h5 : lk st.ρ 5 = some (.lst 0 v)
  k0 : lk st.σ 0 = some (v, .list 9 1 (nm.map .str))
def HasUp (x : Ty) (i : Nat) : Prop := ∀ q : Nat, q < i → ∃ f ∈ x.fields, f.label = 4 ∧ f.oneof = q
def pOf (i : Nat) (f : FT) : Bool := decide (f.label = 4) && decide (f.oneof = (i : Int))
def RaI (t : List Ty) (x : Ty) (n : Nat) (st : St) : Prop := ∃ i v : Nat, RmB t x v (x.oneofs.take i) st ∧ lk st.ρ 6 = some (.iv (.int .i64 (i : Int))) ∧ i ≤ x.oneofs.length ∧ x.oneofs.length < i + n ∧ HasUp x i
def RaJ (t : List Ty) (x : Ty) (i : Nat) (n : Nat) (st : St) : Prop := ∃ j v : Nat, RmB t x v (x.oneofs.take (i + 1)) st ∧ lk st.ρ 6 = some (.iv (.int .i64 (i : Int))) ∧ lk st.ρ 7 = some (.iv (.bool ((x.fields.take j).any (pOf i)))) ∧ lk st.ρ 8 = some (.iv (.int .i64 (j : Int))) ∧ j ≤ x.fields.length ∧ x.fields.length < j + n
def RbI (t : List Ty) (x : Ty) (n : Nat) (st : St) : Prop := ∃ i v : Nat, RmB t x v (x.oneofs ++ (x.fields.take i).map FT.name) st ∧ lk st.ρ 9 = some (.iv (.int .i64 (i : Int))) ∧ i ≤ x.fields.length ∧ x.fields.length < i + n ∧ FldUp t x i
def RbJ (t : List Ty) (x : Ty) (i : Nat) (f : FT) (n : Nat) (st : St) : Prop := ∃ j v w : Nat, RmB t x v (x.oneofs ++ (x.fields.take (i + 1)).map FT.name) st ∧ lk st.ρ 9 = some (.iv (.int .i64 (i : Int))) ∧ lk st.ρ 10 = some (.loc 1 w 0) ∧ lk st.ρ 11 = some (.iv (.int .i64 (j : Int))) ∧
  lk st.σ 1 = some (w, .box [.iv (.str f.name), .iv (.int .i64 f.number), .iv (.int .i64 f.kind), .iv (.int .i64 f.ref), .iv (.int .i64 f.label), .iv (.int .i64 f.oneof), .iv (.int .i64 f.key)]) ∧ j ≤ x.rsv.length ∧ x.rsv.length < j + n ∧ rsvIn (x.rsv.take j) f.number = false
def RcI (t : List Ty) (x : Ty) (n : Nat) (st : St) : Prop := ∃ i v : Nat, RmB t x v (names x) st ∧ lk st.ρ 12 = some (.iv (.int .i64 (i : Int))) ∧ i ≤ (names x).length ∧ (names x).length < i + n ∧ (∀ y ∈ (names x).take i, nameB y = true) ∧ ((names x).take i).Nodup
def RcJ (t : List Ty) (x : Ty) (i : Nat) (y : ByteArray) (n : Nat) (st : St) : Prop := ∃ j v : Nat, RmB t x v (names x) st ∧ lk st.ρ 12 = some (.iv (.int .i64 (i : Int))) ∧ lk st.ρ 13 = some (.iv (.int .i64 (j : Int))) ∧ j ≤ i ∧ i < j + n ∧ y ∉ (names x).take j
def RdI (t : List Ty) (x : Ty) (n : Nat) (st : St) : Prop := ∃ i : Nat, lk st.ρ 3 = some (.iv (.ref (encTy x))) ∧ lk st.ρ 14 = some (.iv (.int .i64 (i : Int))) ∧ i ≤ x.rsv.length ∧ x.rsv.length < i + n ∧ RsvUp x.rsv i
theorem any_take {α : Type} {p : α → Bool} {l : List α} {j : Nat} {a : α} (h : l[j]? = some a) : (l.take (j + 1)).any p = ((l.take j).any p || p a) := by
  rw [List.take_add_one, h]; simp [List.any_append]
theorem ref7_message_fc (t : List Ty) (x : Ty) (hx : okTy x) : FC Tryd.prog i_cartoucheref7_message [encTable t, encTy x] (· = .bool (dec (MsgOk t x))) := by
  obtain ⟨z1, z2, z3, z4, z5, z6, z7, z8⟩ := hx
  by_cases c1 : 0 < (x.syms.length : Int)
  · (refine FC.vc (envRm_ok) F_cartoucheref7_message T_cartoucheref7_message L_cartoucheref7_message ?_; unfold A_cartoucheref7_message; simp only [args0, zl0, zl1, zl2, zl3, zn1])
    (simp -implicitDefEqProofs +contextual (maxSteps := 8000000) only [go_sem, ↓reduceIte, zn0, zn1, zn2, zn3, zn4, reduceCtorEq, zn5, zi0, zi1, zi2, zi3, zi4, zn6, zn7, zn8, zn9, encTable, encTy, encFT, envRm, i_cartoucheref4_IsName, i_cartoucheref7_field, g_cartoucheref4_IsName_is, c1])
    exact (dec_false fun h => by have := h.1; omega).symm
  by_cases c2 : 128 < (x.fields.length : Int)
  · (refine FC.vc (envRm_ok) F_cartoucheref7_message T_cartoucheref7_message L_cartoucheref7_message ?_; unfold A_cartoucheref7_message; simp only [args0, zl0, zl1, zl2, zl3, zn1])
    (simp -implicitDefEqProofs +contextual (maxSteps := 8000000) only [go_sem, ↓reduceIte, zn0, zn1, zn2, zn3, zn4, reduceCtorEq, zn5, zi0, zi1, zi2, zi3, zi4, zn6, zn7, zn8, zn9, encTable, encTy, encFT, envRm, i_cartoucheref4_IsName, i_cartoucheref7_field, g_cartoucheref4_IsName_is, c1, c2])
    exact (dec_false fun h => by have := h.2.1; omega).symm
  by_cases c3 : 128 < (x.rsv.length : Int)
  · (refine FC.vc (envRm_ok) F_cartoucheref7_message T_cartoucheref7_message L_cartoucheref7_message ?_; unfold A_cartoucheref7_message; simp only [args0, zl0, zl1, zl2, zl3, zn1])
    (simp -implicitDefEqProofs +contextual (maxSteps := 8000000) only [go_sem, ↓reduceIte, zn0, zn1, zn2, zn3, zn4, reduceCtorEq, zn5, zi0, zi1, zi2, zi3, zi4, zn6, zn7, zn8, zn9, encTable, encTy, encFT, envRm, i_cartoucheref4_IsName, i_cartoucheref7_field, g_cartoucheref4_IsName_is, c1, c2, c3])
    exact (dec_false fun h => by have := h.2.2.1; omega).symm
  by_cases c4 : (x.fields.length : Int) < (x.oneofs.length : Int)
  · have c4n : x.fields.length < x.oneofs.length := by omega
    (refine FC.vc (envRm_ok) F_cartoucheref7_message T_cartoucheref7_message L_cartoucheref7_message ?_; unfold A_cartoucheref7_message; simp only [args0, zl0, zl1, zl2, zl3, zn1])
    (simp -implicitDefEqProofs +contextual (maxSteps := 8000000) only [go_sem, ↓reduceIte, zn0, zn1, zn2, zn3, zn4, reduceCtorEq, zn5, zi0, zi1, zi2, zi3, zi4, zn6, zn7, zn8, zn9, encTable, encTy, encFT, envRm, i_cartoucheref4_IsName, i_cartoucheref7_field, g_cartoucheref4_IsName_is, c1, c2, c3, c4, c4n])
    exact (dec_false fun h => by
      have := pigeon FT.oneof x.oneofs.length x.fields fun i hi => by
        obtain ⟨f, h1, h2, h3⟩ := h.2.2.2.2.2.2.2 i hi
        exact ⟨f, h1, h3⟩
      omega).symm
  have c4n : ¬ x.fields.length < x.oneofs.length := by omega
  (refine FC.vc (envRm_ok) F_cartoucheref7_message T_cartoucheref7_message L_cartoucheref7_message ?_; unfold A_cartoucheref7_message; simp only [args0, zl0, zl1, zl2, zl3, zn1])
  (simp -implicitDefEqProofs +contextual (maxSteps := 8000000) only [go_sem, ↓reduceIte, zn0, zn1, zn2, zn3, zn4, reduceCtorEq, zn5, zi0, zi1, zi2, zi3, zi4, zn6, zn7, zn8, zn9, encTable, encTy, encFT, envRm, i_cartoucheref4_IsName, i_cartoucheref7_field, g_cartoucheref4_IsName_is, c1, c2, c3, c4, c4n])
  refine vc_loopN 5 0 9 1 (RaI t x) (x.oneofs.length + 1) (by simp [lk]) ⟨0, 0, ⟨by simp [lk, encTable], by simp [lk, encTy], by simp [lk, nxt], by simp [lk, upd, nxt]⟩, by simp [lk], by omega, by omega, fun q hq => absurd hq (by omega)⟩ ?_
  rintro n st ⟨i, v, ⟨h2, h3, h5, k0⟩, h6, g1, g2, g3⟩
  simp only [encTable] at h2
  simp only [encTy] at h3
  by_cases hi : i < x.oneofs.length
  · obtain ⟨y, hy⟩ : ∃ y, x.oneofs[i]? = some y := ⟨x.oneofs[i], by simp [hi]⟩
    have hm := get_map (f := IV.str) hy
    have hw := wrap1 hi (by omega)
    have hlt : (i : Int) < (x.oneofs.length : Int) := by omega
    have hl : (x.oneofs.take i).length = i := by simp; omega
    have hcap : (i + 1) * 16 ≤ 140737488355328 := by omega
    have et : x.oneofs.take (i + 1) = x.oneofs.take i ++ [y] := by rw [List.take_add_one, hy]; rfl
    (simp -implicitDefEqProofs +contextual (maxSteps := 8000000) only [go_sem, ↓reduceIte, zn0, zn1, zn2, zn3, zn4, reduceCtorEq, zn5, zi0, zi1, zi2, zi3, zi4, zn6, zn7, zn8, zn9, encTable, encTy, encFT, envRm, i_cartoucheref4_IsName, i_cartoucheref7_field, g_cartoucheref4_IsName_is, h2, h3, h5, h6, k0, hi, hlt, hm, hw, hl, hcap, nxt, forall_eq'])
    refine vc_loop (RaJ t x i) (x.fields.length + 1) ⟨0, v + 1, ⟨by simp [lk, h2, encTable], by simp [lk, h3, encTy], by simp [lk], by simp [lk_upd, et]⟩, by simp [lk, h6], by simp [lk], by simp [lk], by omega, by omega⟩ ?_
    clear h2 h3 h5 h6 k0
    rintro m st ⟨j, v, ⟨h2, h3, h5, k0⟩, h6, h7, h8, f1, f2⟩
    simp only [encTable] at h2
    simp only [encTy] at h3
    by_cases hj : j < x.fields.length
    · obtain ⟨f, hf⟩ : ∃ f, x.fields[j]? = some f := ⟨x.fields[j], by simp [hj]⟩
      have hmf := get_map (f := encFT) hf
      simp only [encFT] at hmf
      have hwj := wrap1 hj (by omega)
      have hlj : (j : Int) < (x.fields.length : Int) := by omega
      have hap := any_take (p := pOf i) hf
      generalize hb : (x.fields.take j).any (pOf i) = b at h7 hap
      have next : ∀ {ρ : List (Nat × TV)} {σ : Slots}, lk ρ 2 = lk st.ρ 2 → lk ρ 3 = lk st.ρ 3 → lk ρ 5 = lk st.ρ 5 → lk ρ 6 = lk st.ρ 6 → lk ρ 7 = some (.iv (.bool (b || pOf i f))) → lk ρ 8 = some (.iv (.int .i64 ((j + 1 : Nat) : Int))) → lk σ 0 = lk st.σ 0 → ∃ n', n' < m ∧ RaJ t x i n' ⟨ρ, σ⟩ := fun e2 e3 e5 e6 e7 e8 ek => ⟨m - 1, by omega, j + 1, v, ⟨by rw [e2, h2]; rfl, by rw [e3, h3]; rfl, by rw [e5, h5], by rw [ek, k0]⟩, by rw [e6, h6], by rw [e7, hap], e8, by omega, by omega⟩
      cases b with
      | true =>
        (simp -implicitDefEqProofs +contextual (maxSteps := 8000000) only [go_sem, ↓reduceIte, zn0, zn1, zn2, zn3, zn4, reduceCtorEq, zn5, zi0, zi1, zi2, zi3, zi4, zn6, zn7, zn8, zn9, encTable, encTy, encFT, envRm, i_cartoucheref4_IsName, i_cartoucheref7_field, g_cartoucheref4_IsName_is, h2, h3, h5, h6, h7, h8, k0, hj, hlj, hmf, hwj, forall_eq'])
        exact next (by simp [lk]) (by simp [lk]) (by simp [lk]) (by simp [lk]) (by simp [lk]) (by simp [lk]) rfl
      | false =>
        by_cases e1 : f.label = 4
        · (simp -implicitDefEqProofs +contextual (maxSteps := 8000000) only [go_sem, ↓reduceIte, zn0, zn1, zn2, zn3, zn4, reduceCtorEq, zn5, zi0, zi1, zi2, zi3, zi4, zn6, zn7, zn8, zn9, encTable, encTy, encFT, envRm, i_cartoucheref4_IsName, i_cartoucheref7_field, g_cartoucheref4_IsName_is, h2, h3, h5, h6, h7, h8, k0, hj, hlj, hmf, hwj, e1, forall_eq'])
          exact next (by simp [lk]) (by simp [lk]) (by simp [lk]) (by simp [lk]) (by simp [lk, pOf, e1]) (by simp [lk]) rfl
        · (simp -implicitDefEqProofs +contextual (maxSteps := 8000000) only [go_sem, ↓reduceIte, zn0, zn1, zn2, zn3, zn4, reduceCtorEq, zn5, zi0, zi1, zi2, zi3, zi4, zn6, zn7, zn8, zn9, encTable, encTy, encFT, envRm, i_cartoucheref4_IsName, i_cartoucheref7_field, g_cartoucheref4_IsName_is, h2, h3, h5, h6, h7, h8, k0, hj, hlj, hmf, hwj, e1, forall_eq'])
          exact next (by simp [lk]) (by simp [lk]) (by simp [lk]) (by simp [lk]) (by simp [lk, pOf, e1]) (by simp [lk]) rfl
    · have hlj : ¬ (j : Int) < (x.fields.length : Int) := by omega
      rw [List.take_of_length_le (by omega)] at h7
      generalize hb : x.fields.any (pOf i) = b at h7
      cases b with
      | true =>
        have hup : HasUp x (i + 1) := fun q hq => by
          by_cases e : q = i
          · subst e
            obtain ⟨f, hf, hp⟩ := List.any_eq_true.1 hb
            simp [pOf] at hp
            exact ⟨f, hf, hp⟩
          · exact g3 q (by omega)
        (simp -implicitDefEqProofs +contextual (maxSteps := 8000000) only [go_sem, ↓reduceIte, zn0, zn1, zn2, zn3, zn4, reduceCtorEq, zn5, zi0, zi1, zi2, zi3, zi4, zn6, zn7, zn8, zn9, encTable, encTy, encFT, envRm, i_cartoucheref4_IsName, i_cartoucheref7_field, g_cartoucheref4_IsName_is, h2, h3, h5, h6, h7, h8, k0, hj, hlj, hw])
        exact ⟨n - 1, by omega, i + 1, v, ⟨by simp [lk, h2, encTable], by simp [lk, h3, encTy], by simp [lk, h5], by simp [k0]⟩, by simp [lk], by omega, by omega, hup⟩
      | false =>
        (simp -implicitDefEqProofs +contextual (maxSteps := 8000000) only [go_sem, ↓reduceIte, zn0, zn1, zn2, zn3, zn4, reduceCtorEq, zn5, zi0, zi1, zi2, zi3, zi4, zn6, zn7, zn8, zn9, encTable, encTy, encFT, envRm, i_cartoucheref4_IsName, i_cartoucheref7_field, g_cartoucheref4_IsName_is, h2, h3, h5, h6, h7, h8, k0, hj, hlj, hw])
        exact (dec_false fun h => by
          obtain ⟨f, hf, h4, ho⟩ := h.2.2.2.2.2.2.2 i hi
          have := List.any_eq_false.1 hb f hf
          simp [pOf, h4, ho] at this).symm
  have hlt : ¬ (i : Int) < (x.oneofs.length : Int) := by omega
  rw [List.take_of_length_le (by omega)] at k0
  obtain rfl : i = x.oneofs.length := by omega
  (simp -implicitDefEqProofs +contextual (maxSteps := 8000000) only [go_sem, ↓reduceIte, zn0, zn1, zn2, zn3, zn4, reduceCtorEq, zn5, zi0, zi1, zi2, zi3, zi4, zn6, zn7, zn8, zn9, encTable, encTy, encFT, envRm, i_cartoucheref4_IsName, i_cartoucheref7_field, g_cartoucheref4_IsName_is, h2, h3, h5, h6, k0, hi, hlt])
  refine vc_loop (RbI t x) (x.fields.length + 1) ⟨0, v, ⟨by simp [lk, h2, encTable], by simp [lk, h3, encTy], by simp [lk, h5], by simp [k0]⟩, by simp [lk], by omega, by omega, fun q r hq => absurd hq (by omega)⟩ ?_
  clear h2 h3 h5 h6 k0 hi hlt g1 g2 st v n
  rintro n st ⟨i, v, ⟨h2, h3, h5, k0⟩, h9, g1, g2, g4⟩
  simp only [encTable] at h2
  simp only [encTy] at h3
  by_cases hi : i < x.fields.length
  · obtain ⟨f, hf⟩ : ∃ f, x.fields[i]? = some f := ⟨x.fields[i], by simp [hi]⟩
    have hm := get_map (f := encFT) hf
    simp only [encFT] at hm
    have hw := wrap1 hi (by omega)
    have hlt : (i : Int) < (x.fields.length : Int) := by omega
    have hl : (x.fields.take i).length = i := by simp; omega
    have hcap : (x.oneofs.length + i + 1) * 16 ≤ 140737488355328 := by omega
    have et : (x.fields.take (i + 1)).map FT.name = (x.fields.take i).map FT.name ++ [f.name] := take_map hf
    have hgf : g_cartoucheref7_field [.agg [.slice (t.map encTy)], .agg [.str x.name, .bool x.enum, .slice (x.fields.map encFT), .slice (x.oneofs.map .str), .slice (x.syms.map encSym), .slice (x.rsv.map encRng)], .agg [.str f.name, .int .i64 f.number, .int .i64 f.kind, .int .i64 f.ref, .int .i64 f.label, .int .i64 f.oneof, .int .i64 f.key]] = some (.bool (decide (1 ≤ f.number ∧ f.number ≤ 536870911) && fieldB t x f)) := g_cartoucheref7_field_is t x f
    have no : ¬ FieldOk t x i f → false = dec (MsgOk t x) := fun h => (dec_false fun hM => h (hM.2.2.2.2.2.2.1 i f hf)).symm
    generalize hb : (decide (1 ≤ f.number ∧ f.number ≤ 536870911) && fieldB t x f) = b at hgf
    cases b with
    | false =>
      rcases hz : lk st.σ 1 with _ | ⟨v0, it0⟩
      all_goals
        (simp -implicitDefEqProofs +contextual (maxSteps := 8000000) only [go_sem, ↓reduceIte, zn0, zn1, zn2, zn3, zn4, reduceCtorEq, zn5, zi0, zi1, zi2, zi3, zi4, zn6, zn7, zn8, zn9, encTable, encTy, encFT, envRm, i_cartoucheref4_IsName, i_cartoucheref7_field, g_cartoucheref4_IsName_is, h2, h3, h5, h9, k0, hi, hlt, hm, hw, hl, hcap, hz, hgf, nxt, List.append_assoc, Nat.add_assoc, forall_eq'])
        exact ⟨by omega, no fun h => by rw [Bool.and_eq_false_iff] at hb; rcases hb with hb | hb; simp at hb; have := h.1; have := h.2.1; omega; rw [h.2.2.2.1] at hb; cases hb⟩
    | true =>
      rw [Bool.and_eq_true, decide_eq_true_eq] at hb
      obtain ⟨⟨b1, b2⟩, b3⟩ := hb
      have fin : ∀ (hp : ∀ p : FT, 0 < i → x.fields[i - 1]? = some p → p.number < f.number) (hr : rsvIn x.rsv f.number = false), FldUp t x (i + 1) := fun hp hr q g hq hg => by
        by_cases e : q = i
        · subst e; rw [hf] at hg; injection hg with hg; subst hg
          exact ⟨b1, b2, hr, b3, hp⟩
        · exact g4 q g (by omega) hg
      by_cases d4 : 0 < i
      · obtain ⟨p, hp⟩ : ∃ p, x.fields[i - 1]? = some p := ⟨x.fields[i - 1]'(by omega), by rw [List.getElem?_eq_getElem]⟩
        have hmp := get_map (f := encFT) hp
        simp only [encFT] at hmp
        have hw2 : IntKind.i64.wrap ((i : Int) - 1) = ((i - 1 : Nat) : Int) := by rw [wrap_i64 (by omega) (by omega)]; omega
        have d4' : 0 < (i : Int) := by omega
        have hlt2 : ((i - 1 : Nat) : Int) < (x.fields.length : Int) := by omega
        have hlt3 : (i - 1 : Nat) < x.fields.length := by omega
        by_cases d5 : f.number ≤ p.number
        · rcases hz : lk st.σ 1 with _ | ⟨v0, it0⟩
          all_goals
            (simp -implicitDefEqProofs +contextual (maxSteps := 8000000) only [go_sem, ↓reduceIte, zn0, zn1, zn2, zn3, zn4, reduceCtorEq, zn5, zi0, zi1, zi2, zi3, zi4, zn6, zn7, zn8, zn9, encTable, encTy, encFT, envRm, i_cartoucheref4_IsName, i_cartoucheref7_field, g_cartoucheref4_IsName_is, h2, h3, h5, h9, k0, hi, hlt, hm, hmp, hw, hw2, hlt2, hlt3, hl, hcap, hz, hgf, d4, d4', d5, nxt, List.append_assoc, Nat.add_assoc, forall_eq'])
            exact ⟨by omega, no fun h => by have := h.2.2.2.2 p d4 hp; omega⟩
        · rcases hz : lk st.σ 1 with _ | ⟨v0, it0⟩
          all_goals
            (simp -implicitDefEqProofs +contextual (maxSteps := 8000000) only [go_sem, ↓reduceIte, zn0, zn1, zn2, zn3, zn4, reduceCtorEq, zn5, zi0, zi1, zi2, zi3, zi4, zn6, zn7, zn8, zn9, encTable, encTy, encFT, envRm, i_cartoucheref4_IsName, i_cartoucheref7_field, g_cartoucheref4_IsName_is, h2, h3, h5, h9, k0, hi, hlt, hm, hmp, hw, hw2, hlt2, hlt3, hl, hcap, hz, hgf, d4, d4', d5, nxt, List.append_assoc, Nat.add_assoc, forall_eq'])
            refine ⟨by omega, vc_loop (RbJ t x i f) (x.rsv.length + 1) ⟨0, v + 1, _, ⟨by simp [lk, h2, encTable], by simp [lk, h3, encTy], by simp [lk], by simp [lk_upd, et]⟩, by simp [lk, h9], by simp [lk]; rfl, by simp [lk], by simp [lk_upd], by omega, by omega, by simp [rsvIn]⟩ ?_⟩
            have hpp : ∀ p : FT, 0 < i → x.fields[i - 1]? = some p → p.number < f.number := fun p' _ hp' => by rw [hp] at hp'; injection hp' with hp'; subst hp'; omega
            clear h2 h3 h5 h9 k0
            rintro m st hJ
            obtain ⟨j, v, w, ⟨h2, h3, h5, k0⟩, h9, h10, h11, k1, f1, f2, f3⟩ := hJ
            simp only [encTable] at h2
            simp only [encTy] at h3
            by_cases hj : j < x.rsv.length
            · obtain ⟨r, hr⟩ : ∃ r, x.rsv[j]? = some r := ⟨x.rsv[j], by simp [hj]⟩
              have hmr := get_map (f := encRng) hr
              simp only [encRng] at hmr
              have hwj := wrap1 hj (by omega)
              have hlj : (j : Int) < (x.rsv.length : Int) := by omega
              have hap : rsvIn (x.rsv.take (j + 1)) f.number = (rsvIn (x.rsv.take j) f.number || decide (r.low ≤ f.number ∧ f.number ≤ r.high)) := any_take hr
              have bad : r.low ≤ f.number → f.number ≤ r.high → false = dec (MsgOk t x) := fun e1 e2 => no fun h => by
                have h3 := List.any_eq_false.1 h.2.2.1 r (List.mem_of_getElem? hr)
                simp [e1, e2] at h3
              by_cases e1 : r.low ≤ f.number
              · by_cases e2 : f.number ≤ r.high
                · (simp -implicitDefEqProofs +contextual (maxSteps := 8000000) only [go_sem, ↓reduceIte, zn0, zn1, zn2, zn3, zn4, reduceCtorEq, zn5, zi0, zi1, zi2, zi3, zi4, zn6, zn7, zn8, zn9, encTable, encTy, encFT, envRm, i_cartoucheref4_IsName, i_cartoucheref7_field, g_cartoucheref4_IsName_is, h2, h3, h5, h9, h10, h11, k0, k1, hj, hlj, hmr, hwj, e1, e2, forall_eq'])
                  exact bad e1 e2
                · (simp -implicitDefEqProofs +contextual (maxSteps := 8000000) only [go_sem, ↓reduceIte, zn0, zn1, zn2, zn3, zn4, reduceCtorEq, zn5, zi0, zi1, zi2, zi3, zi4, zn6, zn7, zn8, zn9, encTable, encTy, encFT, envRm, i_cartoucheref4_IsName, i_cartoucheref7_field, g_cartoucheref4_IsName_is, h2, h3, h5, h9, h10, h11, k0, k1, hj, hlj, hmr, hwj, e1, e2, forall_eq'])
                  exact ⟨m - 1, by omega, j + 1, v, w, ⟨by simp [lk, h2, encTable], by simp [lk, h3, encTy], by simp [lk, h5], by simp [k0]⟩, by simp [lk, h9], by simp [lk, h10], by simp [lk], by simp [k1], by omega, by omega, by rw [hap, f3]; simp [e2]⟩
              · (simp -implicitDefEqProofs +contextual (maxSteps := 8000000) only [go_sem, ↓reduceIte, zn0, zn1, zn2, zn3, zn4, reduceCtorEq, zn5, zi0, zi1, zi2, zi3, zi4, zn6, zn7, zn8, zn9, encTable, encTy, encFT, envRm, i_cartoucheref4_IsName, i_cartoucheref7_field, g_cartoucheref4_IsName_is, h2, h3, h5, h9, h10, h11, k0, k1, hj, hlj, hmr, hwj, e1, forall_eq'])
                exact ⟨m - 1, by omega, j + 1, v, w, ⟨by simp [lk, h2, encTable], by simp [lk, h3, encTy], by simp [lk, h5], by simp [k0]⟩, by simp [lk, h9], by simp [lk, h10], by simp [lk], by simp [k1], by omega, by omega, by rw [hap, f3]; simp [e1]⟩
            · have hlj : ¬ (j : Int) < (x.rsv.length : Int) := by omega
              rw [List.take_of_length_le (by omega)] at f3
              (simp -implicitDefEqProofs +contextual (maxSteps := 8000000) only [go_sem, ↓reduceIte, zn0, zn1, zn2, zn3, zn4, reduceCtorEq, zn5, zi0, zi1, zi2, zi3, zi4, zn6, zn7, zn8, zn9, encTable, encTy, encFT, envRm, i_cartoucheref4_IsName, i_cartoucheref7_field, g_cartoucheref4_IsName_is, h2, h3, h5, h9, h10, h11, k0, k1, hj, hlj, hw])
              exact ⟨n - 1, by omega, i + 1, v, ⟨by simp [lk, h2, encTable], by simp [lk, h3, encTy], by simp [lk, h5], by simp [k0]⟩, by simp [lk], by omega, by omega, fin hpp f3⟩
      · have d4' : ¬ 0 < (i : Int) := by omega
        rcases hz : lk st.σ 1 with _ | ⟨v0, it0⟩
        all_goals
          (simp -implicitDefEqProofs +contextual (maxSteps := 8000000) only [go_sem, ↓reduceIte, zn0, zn1, zn2, zn3, zn4, reduceCtorEq, zn5, zi0, zi1, zi2, zi3, zi4, zn6, zn7, zn8, zn9, encTable, encTy, encFT, envRm, i_cartoucheref4_IsName, i_cartoucheref7_field, g_cartoucheref4_IsName_is, h2, h3, h5, h9, k0, hi, hlt, hm, hw, hl, hcap, hz, hgf, d4, d4', nxt, List.append_assoc, Nat.add_assoc, forall_eq'])
          refine ⟨by omega, vc_loop (RbJ t x i f) (x.rsv.length + 1) ⟨0, v + 1, _, ⟨by simp [lk, h2, encTable], by simp [lk, h3, encTy], by simp [lk], by simp [lk_upd, et]⟩, by simp [lk, h9], by simp [lk]; rfl, by simp [lk], by simp [lk_upd], by omega, by omega, by simp [rsvIn]⟩ ?_⟩
          have hpp : ∀ p : FT, 0 < i → x.fields[i - 1]? = some p → p.number < f.number := fun p' h0 => absurd h0 d4
          clear h2 h3 h5 h9 k0
          rintro m st hJ
          obtain ⟨j, v, w, ⟨h2, h3, h5, k0⟩, h9, h10, h11, k1, f1, f2, f3⟩ := hJ
          simp only [encTable] at h2
          simp only [encTy] at h3
          by_cases hj : j < x.rsv.length
          · obtain ⟨r, hr⟩ : ∃ r, x.rsv[j]? = some r := ⟨x.rsv[j], by simp [hj]⟩
            have hmr := get_map (f := encRng) hr
            simp only [encRng] at hmr
            have hwj := wrap1 hj (by omega)
            have hlj : (j : Int) < (x.rsv.length : Int) := by omega
            have hap : rsvIn (x.rsv.take (j + 1)) f.number = (rsvIn (x.rsv.take j) f.number || decide (r.low ≤ f.number ∧ f.number ≤ r.high)) := any_take hr
            have bad : r.low ≤ f.number → f.number ≤ r.high → false = dec (MsgOk t x) := fun e1 e2 => no fun h => by
              have h3 := List.any_eq_false.1 h.2.2.1 r (List.mem_of_getElem? hr)
              simp [e1, e2] at h3
            by_cases e1 : r.low ≤ f.number
            · by_cases e2 : f.number ≤ r.high
              · (simp -implicitDefEqProofs +contextual (maxSteps := 8000000) only [go_sem, ↓reduceIte, zn0, zn1, zn2, zn3, zn4, reduceCtorEq, zn5, zi0, zi1, zi2, zi3, zi4, zn6, zn7, zn8, zn9, encTable, encTy, encFT, envRm, i_cartoucheref4_IsName, i_cartoucheref7_field, g_cartoucheref4_IsName_is, h2, h3, h5, h9, h10, h11, k0, k1, hj, hlj, hmr, hwj, e1, e2, forall_eq'])
                exact bad e1 e2
              · (simp -implicitDefEqProofs +contextual (maxSteps := 8000000) only [go_sem, ↓reduceIte, zn0, zn1, zn2, zn3, zn4, reduceCtorEq, zn5, zi0, zi1, zi2, zi3, zi4, zn6, zn7, zn8, zn9, encTable, encTy, encFT, envRm, i_cartoucheref4_IsName, i_cartoucheref7_field, g_cartoucheref4_IsName_is, h2, h3, h5, h9, h10, h11, k0, k1, hj, hlj, hmr, hwj, e1, e2, forall_eq'])
                exact ⟨m - 1, by omega, j + 1, v, w, ⟨by simp [lk, h2, encTable], by simp [lk, h3, encTy], by simp [lk, h5], by simp [k0]⟩, by simp [lk, h9], by simp [lk, h10], by simp [lk], by simp [k1], by omega, by omega, by rw [hap, f3]; simp [e2]⟩
            · (simp -implicitDefEqProofs +contextual (maxSteps := 8000000) only [go_sem, ↓reduceIte, zn0, zn1, zn2, zn3, zn4, reduceCtorEq, zn5, zi0, zi1, zi2, zi3, zi4, zn6, zn7, zn8, zn9, encTable, encTy, encFT, envRm, i_cartoucheref4_IsName, i_cartoucheref7_field, g_cartoucheref4_IsName_is, h2, h3, h5, h9, h10, h11, k0, k1, hj, hlj, hmr, hwj, e1, forall_eq'])
              exact ⟨m - 1, by omega, j + 1, v, w, ⟨by simp [lk, h2, encTable], by simp [lk, h3, encTy], by simp [lk, h5], by simp [k0]⟩, by simp [lk, h9], by simp [lk, h10], by simp [lk], by simp [k1], by omega, by omega, by rw [hap, f3]; simp [e1]⟩
          · have hlj : ¬ (j : Int) < (x.rsv.length : Int) := by omega
            rw [List.take_of_length_le (by omega)] at f3
            (simp -implicitDefEqProofs +contextual (maxSteps := 8000000) only [go_sem, ↓reduceIte, zn0, zn1, zn2, zn3, zn4, reduceCtorEq, zn5, zi0, zi1, zi2, zi3, zi4, zn6, zn7, zn8, zn9, encTable, encTy, encFT, envRm, i_cartoucheref4_IsName, i_cartoucheref7_field, g_cartoucheref4_IsName_is, h2, h3, h5, h9, h10, h11, k0, k1, hj, hlj, hw])
            exact ⟨n - 1, by omega, i + 1, v, ⟨by simp [lk, h2, encTable], by simp [lk, h3, encTy], by simp [lk, h5], by simp [k0]⟩, by simp [lk], by omega, by omega, fin hpp f3⟩
  have hlt : ¬ (i : Int) < (x.fields.length : Int) := by omega
  rw [List.take_of_length_le (by omega)] at k0
  obtain rfl : i = x.fields.length := by omega
  have hnl : (names x).length = x.oneofs.length + x.fields.length := by simp [names]
  have hfo : ∀ (i : Nat) (f : FT), x.fields[i]? = some f → FieldOk t x i f := fun i f hf => g4 i f (List.getElem?_eq_some_iff.1 hf).1 hf
  have hnm : x.oneofs ++ x.fields.map FT.name = names x := rfl
  have hz9 : ∀ y ∈ names x, y.size ≤ 2000000 := fun y hy => by
    rcases List.mem_append.1 hy with hy | hy
    · exact z7 y hy
    · obtain ⟨f, hf, rfl⟩ := List.mem_map.1 hy; exact z6 f hf
  rw [hnm] at k0
  have hfl := flat_str (names x)
  have hos := oneSize_str (names x)
  (simp -implicitDefEqProofs +contextual (maxSteps := 8000000) only [go_sem, ↓reduceIte, zn0, zn1, zn2, zn3, zn4, reduceCtorEq, zn5, zi0, zi1, zi2, zi3, zi4, zn6, zn7, zn8, zn9, encTable, encTy, encFT, envRm, i_cartoucheref4_IsName, i_cartoucheref7_field, g_cartoucheref4_IsName_is, h2, h3, h5, h9, k0, hi, hlt])
  refine vc_loop (RcI t x) ((names x).length + 1) ⟨0, v, ⟨by simp [lk, h2, encTable], by simp [lk, h3, encTy], by simp [lk, h5], by simp [k0]⟩, by simp [lk], by omega, by omega, by simp, by simp⟩ ?_
  clear h2 h3 h5 h9 k0 hi hlt g1 g2 st v n
  rintro n st ⟨i, v, ⟨h2, h3, h5, k0⟩, h12, g1, g2, g5, g6⟩
  simp only [encTable] at h2
  simp only [encTy] at h3
  by_cases hi : i < (names x).length
  · obtain ⟨y, hy⟩ : ∃ y, (names x)[i]? = some y := ⟨(names x)[i], by simp [hi]⟩
    have hm := get_map (f := IV.str) hy
    have hw := wrap1 hi (by omega)
    have hlt : (i : Int) < ((names x).length : Int) := by omega
    have hsz := hz9 y (List.mem_of_getElem? hy)
    have hpos : (0 : Int) ≤ (i : Int) := by omega
    have hi1 : i + 1 ≤ (names x).length := by omega
    have et : (names x).take (i + 1) = (names x).take i ++ [y] := by rw [List.take_add_one, hy]; rfl
    by_cases d1 : nameB y = true
    rotate_left
    · have d1' : nameB y = false := by simpa using d1
      (simp -implicitDefEqProofs +contextual (maxSteps := 8000000) only [go_sem, ↓reduceIte, zn0, zn1, zn2, zn3, zn4, reduceCtorEq, zn5, zi0, zi1, zi2, zi3, zi4, zn6, zn7, zn8, zn9, encTable, encTy, encFT, envRm, i_cartoucheref4_IsName, i_cartoucheref7_field, g_cartoucheref4_IsName_is, h2, h3, h5, h12, k0, hi, hi1, hpos, hlt, hm, hw, hsz, hfl, hos, d1', List.length_map, List.getElem?_map, forall_eq'])
      exact (dec_false fun h => d1 (h.2.2.2.1 y (List.mem_of_getElem? hy))).symm
    (simp -implicitDefEqProofs +contextual (maxSteps := 8000000) only [go_sem, ↓reduceIte, zn0, zn1, zn2, zn3, zn4, reduceCtorEq, zn5, zi0, zi1, zi2, zi3, zi4, zn6, zn7, zn8, zn9, encTable, encTy, encFT, envRm, i_cartoucheref4_IsName, i_cartoucheref7_field, g_cartoucheref4_IsName_is, h2, h3, h5, h12, k0, hi, hi1, hpos, hlt, hm, hw, hsz, hfl, hos, d1, hy, List.length_map, List.getElem?_map, forall_eq'])
    refine vc_loop (RcJ t x i y) (i + 1) ⟨0, v, ⟨by simp [lk, h2, encTable], by simp [lk, h3, encTy], by simp [lk, h5], by simp [k0]⟩, by simp [lk, h12], by simp [lk], by omega, by omega, by simp⟩ ?_
    clear h2 h3 h5 h12 k0
    rintro m st ⟨j, v, ⟨h2, h3, h5, k0⟩, h12, h13, f1, f2, f3⟩
    simp only [encTable] at h2
    simp only [encTy] at h3
    by_cases hj : j < i
    · obtain ⟨u, hu⟩ : ∃ u, (names x)[j]? = some u := ⟨(names x)[j]'(by omega), by rw [List.getElem?_eq_getElem]⟩
      have hmu := get_map (f := IV.str) hu
      have hwj := wrap1 hj (by omega)
      have hlj : (j : Int) < (i : Int) := by omega
      have hpj : (0 : Int) ≤ (j : Int) := by omega
      have hj1 : j + 1 ≤ (names x).length := by omega
      by_cases e1 : y = u
      · (simp -implicitDefEqProofs +contextual (maxSteps := 8000000) only [go_sem, ↓reduceIte, zn0, zn1, zn2, zn3, zn4, reduceCtorEq, zn5, zi0, zi1, zi2, zi3, zi4, zn6, zn7, zn8, zn9, encTable, encTy, encFT, envRm, i_cartoucheref4_IsName, i_cartoucheref7_field, g_cartoucheref4_IsName_is, h2, h3, h5, h12, h13, k0, hj, hj1, hpj, hlj, hi, hi1, hpos, hm, hmu, hwj, hfl, hos, e1, hy, hu, List.length_map, List.getElem?_map, forall_eq'])
        exact (dec_false fun h => not_nodup' hy (by rw [e1]; exact List.mem_of_getElem? (by rw [List.getElem?_take, if_pos hj]; exact hu)) h.2.2.2.2.1).symm
      · (simp -implicitDefEqProofs +contextual (maxSteps := 8000000) only [go_sem, ↓reduceIte, zn0, zn1, zn2, zn3, zn4, reduceCtorEq, zn5, zi0, zi1, zi2, zi3, zi4, zn6, zn7, zn8, zn9, encTable, encTy, encFT, envRm, i_cartoucheref4_IsName, i_cartoucheref7_field, g_cartoucheref4_IsName_is, h2, h3, h5, h12, h13, k0, hj, hj1, hpj, hlj, hi, hi1, hpos, hm, hmu, hwj, hfl, hos, e1, hy, hu, List.length_map, List.getElem?_map, forall_eq'])
        exact ⟨m - 1, by omega, j + 1, v, ⟨by simp [lk, h2, encTable], by simp [lk, h3, encTy], by simp [lk, h5], by simp [k0]⟩, by simp [lk, h12], by simp [lk], by omega, by omega, by
          rw [List.take_add_one, hu]
          intro hmem
          rcases List.mem_append.1 hmem with hmem | hmem
          · exact f3 hmem
          · simp at hmem; exact e1 hmem⟩
    · have hlj : ¬ (j : Int) < (i : Int) := by omega
      obtain rfl : j = i := by omega
      (simp -implicitDefEqProofs +contextual (maxSteps := 8000000) only [go_sem, ↓reduceIte, zn0, zn1, zn2, zn3, zn4, reduceCtorEq, zn5, zi0, zi1, zi2, zi3, zi4, zn6, zn7, zn8, zn9, encTable, encTy, encFT, envRm, i_cartoucheref4_IsName, i_cartoucheref7_field, g_cartoucheref4_IsName_is, h2, h3, h5, h12, h13, k0, hj, hlj, hw])
      exact ⟨n - 1, by omega, j + 1, v, ⟨by simp [lk, h2, encTable], by simp [lk, h3, encTy], by simp [lk, h5], by simp [k0]⟩, by simp [lk], by omega, by omega, by rw [et]; exact mem_snoc g5 d1, by rw [et]; exact nodup_snoc g6 f3⟩
  have hlt : ¬ (i : Int) < ((names x).length : Int) := by omega
  rw [List.take_of_length_le (by omega)] at g5 g6
  (simp -implicitDefEqProofs +contextual (maxSteps := 8000000) only [go_sem, ↓reduceIte, zn0, zn1, zn2, zn3, zn4, reduceCtorEq, zn5, zi0, zi1, zi2, zi3, zi4, zn6, zn7, zn8, zn9, encTable, encTy, encFT, envRm, i_cartoucheref4_IsName, i_cartoucheref7_field, g_cartoucheref4_IsName_is, h2, h3, h5, h12, k0, hi, hlt, List.length_map])
  refine vc_loop (RdI t x) (x.rsv.length + 1) ⟨0, by simp [lk, h3, encTy], by simp [lk], by omega, by omega, fun q r hq => absurd hq (by omega)⟩ ?_
  clear h2 h3 h5 h12 k0 hi hlt g1 g2 st v n
  rintro n st ⟨i, h3, h14, g1, g2, g7⟩
  simp only [encTy] at h3
  by_cases hi : i < x.rsv.length
  · obtain ⟨r, hr⟩ : ∃ r, x.rsv[i]? = some r := ⟨x.rsv[i], by simp [hi]⟩
    have hm := get_map (f := encRng) hr
    simp only [encRng] at hm
    have hw := wrap1 hi (by omega)
    have hlt : (i : Int) < (x.rsv.length : Int) := by omega
    have no : ¬ (1 ≤ r.low ∧ r.high ≤ 536870911 ∧ r.low ≤ r.high ∧ ∀ p : Rng, 0 < i → x.rsv[i - 1]? = some p → p.high < r.low) → false = dec (MsgOk t x) := fun h => (dec_false fun hM => h (hM.2.2.2.2.2.1 i r hr)).symm
    by_cases d1 : r.low < 1
    · rcases hz : lk st.σ 2 with _ | ⟨v0, it0⟩
      all_goals
        (simp -implicitDefEqProofs +contextual (maxSteps := 8000000) only [go_sem, ↓reduceIte, zn0, zn1, zn2, zn3, zn4, reduceCtorEq, zn5, zi0, zi1, zi2, zi3, zi4, zn6, zn7, zn8, zn9, encTable, encTy, encFT, envRm, i_cartoucheref4_IsName, i_cartoucheref7_field, g_cartoucheref4_IsName_is, h3, h14, hi, hlt, hm, hw, hz, d1, forall_eq'])
        exact no fun h => by omega
    by_cases d2 : 536870911 < r.high
    · rcases hz : lk st.σ 2 with _ | ⟨v0, it0⟩
      all_goals
        (simp -implicitDefEqProofs +contextual (maxSteps := 8000000) only [go_sem, ↓reduceIte, zn0, zn1, zn2, zn3, zn4, reduceCtorEq, zn5, zi0, zi1, zi2, zi3, zi4, zn6, zn7, zn8, zn9, encTable, encTy, encFT, envRm, i_cartoucheref4_IsName, i_cartoucheref7_field, g_cartoucheref4_IsName_is, h3, h14, hi, hlt, hm, hw, hz, d1, d2, forall_eq'])
        exact no fun h => by omega
    by_cases d3 : r.high < r.low
    · rcases hz : lk st.σ 2 with _ | ⟨v0, it0⟩
      all_goals
        (simp -implicitDefEqProofs +contextual (maxSteps := 8000000) only [go_sem, ↓reduceIte, zn0, zn1, zn2, zn3, zn4, reduceCtorEq, zn5, zi0, zi1, zi2, zi3, zi4, zn6, zn7, zn8, zn9, encTable, encTy, encFT, envRm, i_cartoucheref4_IsName, i_cartoucheref7_field, g_cartoucheref4_IsName_is, h3, h14, hi, hlt, hm, hw, hz, d1, d2, d3, forall_eq'])
        exact no fun h => by omega
    have next : ∀ (hp : ∀ p : Rng, 0 < i → x.rsv[i - 1]? = some p → p.high < r.low), RsvUp x.rsv (i + 1) := fun hp q s hq hs => by
      by_cases e : q = i
      · subst e; rw [hr] at hs; injection hs with hs; subst hs
        exact ⟨by omega, by omega, by omega, hp⟩
      · exact g7 q s (by omega) hs
    by_cases d4 : 0 < i
    · obtain ⟨p, hp⟩ : ∃ p, x.rsv[i - 1]? = some p := ⟨x.rsv[i - 1]'(by omega), by rw [List.getElem?_eq_getElem]⟩
      have hmp := get_map (f := encRng) hp
      simp only [encRng] at hmp
      have hw2 : IntKind.i64.wrap ((i : Int) - 1) = ((i - 1 : Nat) : Int) := by rw [wrap_i64 (by omega) (by omega)]; omega
      have d4' : 0 < (i : Int) := by omega
      have hlt2 : ((i - 1 : Nat) : Int) < (x.rsv.length : Int) := by omega
      have hlt3 : (i - 1 : Nat) < x.rsv.length := by omega
      by_cases d5 : r.low ≤ p.high
      · rcases hz : lk st.σ 2 with _ | ⟨v0, it0⟩
        all_goals
          (simp -implicitDefEqProofs +contextual (maxSteps := 8000000) only [go_sem, ↓reduceIte, zn0, zn1, zn2, zn3, zn4, reduceCtorEq, zn5, zi0, zi1, zi2, zi3, zi4, zn6, zn7, zn8, zn9, encTable, encTy, encFT, envRm, i_cartoucheref4_IsName, i_cartoucheref7_field, g_cartoucheref4_IsName_is, h3, h14, hi, hlt, hm, hmp, hw, hw2, hlt2, hlt3, hz, d1, d2, d3, d4, d4', d5, forall_eq'])
          exact no fun h => by have := h.2.2.2 p d4 hp; omega
      · have hn := next fun p' _ hp' => by rw [hp] at hp'; injection hp' with hp'; subst hp'; omega
        rcases hz : lk st.σ 2 with _ | ⟨v0, it0⟩
        all_goals
          (simp -implicitDefEqProofs +contextual (maxSteps := 8000000) only [go_sem, ↓reduceIte, zn0, zn1, zn2, zn3, zn4, reduceCtorEq, zn5, zi0, zi1, zi2, zi3, zi4, zn6, zn7, zn8, zn9, encTable, encTy, encFT, envRm, i_cartoucheref4_IsName, i_cartoucheref7_field, g_cartoucheref4_IsName_is, h3, h14, hi, hlt, hm, hmp, hw, hw2, hlt2, hlt3, hz, d1, d2, d3, d4, d4', d5, forall_eq'])
          exact ⟨n - 1, by omega, i + 1, by simp [lk, h3, encTy], by simp [lk], by omega, by omega, hn⟩
    · have hn := next fun p' h0 => absurd h0 d4
      have d4' : ¬ 0 < (i : Int) := by omega
      rcases hz : lk st.σ 2 with _ | ⟨v0, it0⟩
      all_goals
        (simp -implicitDefEqProofs +contextual (maxSteps := 8000000) only [go_sem, ↓reduceIte, zn0, zn1, zn2, zn3, zn4, reduceCtorEq, zn5, zi0, zi1, zi2, zi3, zi4, zn6, zn7, zn8, zn9, encTable, encTy, encFT, envRm, i_cartoucheref4_IsName, i_cartoucheref7_field, g_cartoucheref4_IsName_is, h3, h14, hi, hlt, hm, hw, hz, d1, d2, d3, d4, d4', forall_eq'])
        exact ⟨n - 1, by omega, i + 1, by simp [lk, h3, encTy], by simp [lk], by omega, by omega, hn⟩
  have hlt : ¬ (i : Int) < (x.rsv.length : Int) := by omega
  obtain rfl : i = x.rsv.length := by omega
  (simp -implicitDefEqProofs +contextual (maxSteps := 8000000) only [go_sem, ↓reduceIte, zn0, zn1, zn2, zn3, zn4, reduceCtorEq, zn5, zi0, zi1, zi2, zi3, zi4, zn6, zn7, zn8, zn9, encTable, encTy, encFT, envRm, i_cartoucheref4_IsName, i_cartoucheref7_field, g_cartoucheref4_IsName_is, h3, h14, hi, hlt])
  exact (dec_true ⟨by omega, by omega, by omega, g5, g6, g7.all, hfo, g3⟩).symm
end Go.Proofs.YtmdkcapbahjipaaDoor.Ag
