/- Tables that are good; types by their names -/
import Derived.Test.YtmdkcapbahjipaaDoorTM4
import Derived.Test.YtmdkcapbahjipaaDoorTM5
set_option linter.unusedVariables false
set_option linter.unusedSimpArgs false
set_option maxRecDepth 100000
set_option maxHeartbeats 4000000
open List renaming map_cons → zl0, map_nil → zl1, zipIdx_cons → zl2, zipIdx_nil → zl3
open Nat renaming reduceEqDiff → zn0, reduceAdd → zn1, reduceSub → zn2, reduceLeDiff → zn3, reduceMul → zn4, reduceBEq → zn5, reducePow → zn6, reduceLT → zn7, reduceDiv → zn8, reduceMod → zn9
open Int renaming reduceLT → zi0, reduceLE → zi1, reduceNeg → zi2, reduceEq → zi3, reduceToNat → zi4
namespace Go.Proofs.YtmdkcapbahjipaaDoor.Ag
open Classical
noncomputable def g_table_goodMessage : List IV → Option IV
  | [t_, x_] => (match decTable t_ with
    | some t => (match decTy x_ with
    | some x => if okTy x then some (.bool (dec (MsgOk t x))) else none
    | none => none)
    | none => none)
  | _ => none
theorem g_table_goodMessage_is (t : List Ty) (x : Ty) : g_table_goodMessage [encTable t, encTy x] = if okTy x then some (.bool (dec (MsgOk t x))) else none := by
  simp only [g_table_goodMessage, decTable_enc, decTy_enc]
theorem g_table_goodMessage_ok : ∀ xs r, g_table_goodMessage xs = some r → FC Tryd.prog i_table_goodMessage xs (· = r) := by
  intro xs r h
  unfold g_table_goodMessage at h
  split at h
  · rename_i t_ x_
    split at h
    · rename_i t ht
      split at h
      · rename_i x hx
        split at h
        · rename_i hpre
          injection h with h; subst h
          have := decTable_enc_inv ht; subst this
          have := decTy_enc_inv hx; subst this
          exact goodMessage_fc t x hpre
        · cases h
      · cases h
    · cases h
  · cases h

noncomputable def g_cartoucheref7_message : List IV → Option IV
  | [t_, x_] => (match decTable t_ with
    | some t => (match decTy x_ with
    | some x => if okTy x then some (.bool (dec (MsgOk t x))) else none
    | none => none)
    | none => none)
  | _ => none
theorem g_cartoucheref7_message_is (t : List Ty) (x : Ty) : g_cartoucheref7_message [encTable t, encTy x] = if okTy x then some (.bool (dec (MsgOk t x))) else none := by
  simp only [g_cartoucheref7_message, decTable_enc, decTy_enc]
theorem g_cartoucheref7_message_ok : ∀ xs r, g_cartoucheref7_message xs = some r → FC Tryd.prog i_cartoucheref7_message xs (· = r) := by
  intro xs r h
  unfold g_cartoucheref7_message at h
  split at h
  · rename_i t_ x_
    split at h
    · rename_i t ht
      split at h
      · rename_i x hx
        split at h
        · rename_i hpre
          injection h with h; subst h
          have := decTable_enc_inv ht; subst this
          have := decTy_enc_inv hx; subst this
          exact ref7_message_fc t x hpre
        · cases h
      · cases h
    · cases h
  · cases h

end Go.Proofs.YtmdkcapbahjipaaDoor.Ag
namespace Go.Proofs.YtmdkcapbahjipaaDoor.Ag
open Classical in
noncomputable def g_goodName : List TV → Slots → Option (TV × Slots)
  | [.iv ti, .iv (.int .i64 n), .mp k a], σ => if 95 = k then none else match decTable ti with
    | some t => match t[n.toNat]? with
      | some x => if n = (n.toNat : Int) ∧ x.name.size ≤ 2000000 ∧ t.length ≤ 2000000 ∧ lk σ k = some (a, .map .str (encAhead (t.take n.toNat))) then some (.iv (.bool (dec (NameR (t.take n.toNat) x))), gnσ σ x) else none
      | none => none
    | none => none
  | _, _ => none
theorem g_goodName_ok : ∀ vs σ r σ', g_goodName vs σ = some (r, σ') → GC Tryd.prog i_table_goodName vs σ (fun r' σ'' => r' = r ∧ σ'' = σ') := by
  intro vs σ r σ' h
  unfold g_goodName at h
  split at h
  · rename_i ti n k a
    split at h
    · cases h
    · rename_i hk
      split at h
      · rename_i t ht
        have := decTable_enc_inv ht; subst this
        split at h
        · rename_i x hx
          split at h
          · rename_i hc
            simp only [Option.some.injEq, Prod.mk.injEq] at h
            obtain ⟨rfl, rfl⟩ := h
            have := goodName_gc hk hx hc.2.1 hc.2.2.1 hc.2.2.2
            rw [← hc.1] at this
            exact this
          · cases h
        · cases h
      · cases h
  · cases h
theorem g_goodName_is {σ : Slots} {t : List Ty} {x : Ty} {i k a : Nat} (hk : ¬ 95 = k) (hx : t[i]? = some x) (hs : x.name.size ≤ 2000000) (ht : t.length ≤ 2000000) (h : lk σ k = some (a, .map .str (encAhead (t.take i)))) :
    g_goodName [.iv (encTable t), .iv (.int .i64 (i : Int)), .mp k a] σ = some (.iv (.bool (dec (NameR (t.take i) x))), gnσ σ x) := by
  simp only [g_goodName, if_neg hk, decTable_enc, Int.toNat_natCast, hx]
  rw [if_pos (by simp only [eq_self, true_and]; exact ⟨hs, ht, h⟩)]
open Classical in
noncomputable def g_ref7_named : List IV → Option IV
  | [ti, .int .i64 n] => match decTable ti with
    | some t => match t[n.toNat]? with
      | some x => if n = (n.toNat : Int) ∧ x.name.size ≤ 2000000 ∧ t.length ≤ 2000000 then some (.bool (dec (NameOk (t.take n.toNat) x))) else none
      | none => none
    | none => none
  | _ => none
theorem g_ref7_named_ok : ∀ xs r, g_ref7_named xs = some r → FC Tryd.prog i_cartoucheref7_named xs (· = r) := by
  intro xs r h
  unfold g_ref7_named at h
  split at h
  · rename_i ti n
    split at h
    · rename_i t ht
      have := decTable_enc_inv ht; subst this
      split at h
      · rename_i x hx
        split at h
        · rename_i hc
          injection h with h; subst h
          have := ref7_named_fc t x n.toNat hx hc.2.1 hc.2.2
          rw [← hc.1] at this
          exact this
        · cases h
      · cases h
    · cases h
  · cases h
theorem g_ref7_named_is {t : List Ty} {x : Ty} {i : Nat} (hx : t[i]? = some x) (hs : x.name.size ≤ 2000000) (ht : t.length ≤ 2000000) : g_ref7_named [encTable t, .int .i64 (i : Int)] = some (.bool (dec (NameOk (t.take i) x))) := by
  simp only [g_ref7_named, decTable_enc, Int.toNat_natCast, hx]
  rw [if_pos (by simpa using ⟨hs, ht⟩)]
end Go.Proofs.YtmdkcapbahjipaaDoor.Ag
namespace Go.Proofs.YtmdkcapbahjipaaDoor.Ag
attribute [-go_sem] Int.not_lt Int.not_le
def GoodUp (t : List Ty) (i : Nat) : Prop := ∀ (q : Nat) (x : Ty), q < i → t[q]? = some x → NameOk (t.take q) x ∧ TyOk t x
theorem GoodUp.next {t : List Ty} {i : Nat} {x : Ty} (h : GoodUp t i) (hx : t[i]? = some x) (h1 : NameOk (t.take i) x) (h2 : TyOk t x) : GoodUp t (i + 1) := by
  intro q y hq hy
  by_cases e : q = i
  · subst e; rw [hx] at hy; injection hy with hy; subst hy; exact ⟨h1, h2⟩
  · exact h q y (by omega) hy
noncomputable def envTg : Env := { split := true, fc := [(i_table_goodEnum, g_table_goodEnum), (i_table_goodMessage, g_table_goodMessage)], gc := [(i_table_goodName, g_goodName)] }
theorem envTg_ok : EnvOk Tryd.prog envTg := ((EnvOk.noneS.addF g_table_goodMessage_ok).addF g_table_goodEnum_ok).addG g_goodName_ok
def TgI (t : List Ty) (n : Nat) (st : St) : Prop := ∃ i a : Nat, lk st.ρ 1 = some (.iv (.ref (encTable t))) ∧ lk st.ρ 3 = some (.mp 0 a) ∧ lk st.ρ 14 = some (.iv (.slice (t.map encTy))) ∧ lk st.ρ 15 = some (.iv (.int .i64 (t.length : Int))) ∧ lk st.ρ 16 = some (.iv (.int .i64 (i : Int))) ∧ lk st.σ 0 = some (a, .map .str (encAhead (t.take i))) ∧ i ≤ t.length ∧ t.length < i + n ∧ GoodUp t i
theorem tyOk_enum {t : List Ty} {x : Ty} (he : x.enum = true) : TyOk t x ↔ EnumOk x := by
  unfold TyOk; rw [he]; simp
theorem tyOk_msg {t : List Ty} {x : Ty} (he : x.enum = false) : TyOk t x ↔ MsgOk t x := by
  unfold TyOk; rw [he]; simp
theorem Good_fc (t : List Ty) (ht : okT t) : FC Tryd.prog i_table_Good [encTable t] (· = .bool (dec (GoodT t))) := by
  obtain ⟨z1, z2⟩ := ht
  by_cases c1 : 128 < (t.length : Int)
  · (refine FC.vc (envTg_ok) F_table_Good T_table_Good L_table_Good ?_; unfold A_table_Good; simp only [args0, zl0, zl1, zl2, zl3, zn1])
    (simp -implicitDefEqProofs +contextual (maxSteps := 8000000) only [go_sem, ↓reduceIte, zn0, zn1, zn2, zn3, zn4, reduceCtorEq, zn5, zi0, zi1, zi2, zi3, zi4, zn6, zn7, zn8, zn9, encTable, envTg, c1])
    exact (dec_false fun h => by have := h.1; omega).symm
  (refine FC.vc (envTg_ok) F_table_Good T_table_Good L_table_Good ?_; unfold A_table_Good; simp only [args0, zl0, zl1, zl2, zl3, zn1])
  (simp -implicitDefEqProofs +contextual (maxSteps := 8000000) only [go_sem, ↓reduceIte, zn0, zn1, zn2, zn3, zn4, reduceCtorEq, zn5, zi0, zi1, zi2, zi3, zi4, zn6, zn7, zn8, zn9, encTable, envTg, c1])
  refine vc_loop (TgI t) (t.length + 1) ⟨0, 0, by simp [lk, encTable], by simp [lk], by simp [lk], by simp [lk], by simp [lk], by simp [lk, upd, encAhead], by omega, by omega, fun q x hq => absurd hq (by omega)⟩ ?_
  rintro n st ⟨i, a, h1, h3, h14, h15, h16, k0, g1, g2, g3⟩
  simp only [encTable] at h1
  by_cases hi : i < t.length
  · obtain ⟨x, hx⟩ : ∃ x, t[i]? = some x := ⟨t[i], by simp [hi]⟩
    have hm := get_map (f := encTy) hx
    simp only [encTy] at hm
    have hw := wrap1 hi (by omega)
    have hlt : (i : Int) < (t.length : Int) := by omega
    have hok := z2 x (List.mem_of_getElem? hx)
    have et : t.take (i + 1) = t.take i ++ [x] := by rw [List.take_add_one, hx]; rfl
    have hl : (t.take i).length = i := by simp; omega
    have no : ¬ (NameOk (t.take i) x ∧ TyOk t x) → false = dec (GoodT t) := fun h => (dec_false fun hG => h (hG.2 i x hx)).symm
    cases hf : (t.take i).find? (fun y => decide (y.name = x.name)) with
    | some y =>
      obtain ⟨j, q, hfi, hy⟩ := ahead_some hf
      rcases hz : lk st.σ 1 with _ | ⟨v0, it0⟩
      all_goals
        (simp -implicitDefEqProofs +contextual (maxSteps := 8000000) only [go_sem, ↓reduceIte, zn0, zn1, zn2, zn3, zn4, reduceCtorEq, zn5, zi0, zi1, zi2, zi3, zi4, zn6, zn7, zn8, zn9, encTable, envTg, h1, h3, h14, h15, h16, k0, hi, hlt, hm, hw, hz, hfi, forall_eq'])
        exact no fun h => by
          have := find_none.2 h.1.1
          rw [this] at hf; cases hf
    | none =>
      have hfi := ahead_none hf
      have hnew := find_none.1 hf
      have hput := ahead_put hnew
      rw [hl] at hput
      have hgn : ∀ σ, lk σ 0 = some (a, .map .str (encAhead (t.take i))) → g_goodName [.iv (.agg [.slice (t.map encTy)]), .iv (.int .i64 (i : Int)), .mp 0 a] σ = some (.iv (.bool (dec (NameR (t.take i) x))), gnσ σ x) := fun σ h => g_goodName_is (by decide) hx hok.1 z1 h
      have hge := g_table_goodEnum_is x
      have hgm := g_table_goodMessage_is t x
      rw [if_pos hok] at hge hgm
      simp only [encTy, encTable] at hge hgm
      generalize hb : dec (NameR (t.take i) x) = b at hgn
      cases b with
      | false =>
        rcases hz : lk st.σ 1 with _ | ⟨v0, it0⟩
        all_goals
          (simp -implicitDefEqProofs +contextual (maxSteps := 8000000) only [go_sem, ↓reduceIte, zn0, zn1, zn2, zn3, zn4, reduceCtorEq, zn5, zi0, zi1, zi2, zi3, zi4, zn6, zn7, zn8, zn9, encTable, envTg, i_table_goodName, i_table_goodEnum, i_table_goodMessage, h1, h3, h14, h15, h16, k0, hi, hlt, hm, hw, hz, hfi, hgn, forall_eq'])
          exact no fun h => dec_iffF.1 hb h.1.2
      | true =>
        have hN : NameOk (t.take i) x := ⟨hnew, dec_iff.1 hb⟩
        cases he : x.enum with
        | true =>
          rw [he] at hm hge hgm
          generalize hb2 : dec (EnumOk x) = b2 at hge
          cases b2 with
          | false =>
            rcases hz : lk st.σ 1 with _ | ⟨v0, it0⟩
            all_goals
              (simp -implicitDefEqProofs +contextual (maxSteps := 8000000) only [go_sem, ↓reduceIte, zn0, zn1, zn2, zn3, zn4, reduceCtorEq, zn5, zi0, zi1, zi2, zi3, zi4, zn6, zn7, zn8, zn9, encTable, envTg, gnσ, i_table_goodName, i_table_goodEnum, i_table_goodMessage, h1, h3, h14, h15, h16, k0, hi, hlt, hm, hw, hz, hfi, hgn, hge, hput, forall_eq'])
              exact no fun h => dec_iffF.1 hb2 ((tyOk_enum he).1 h.2)
          | true =>
            rcases hz : lk st.σ 1 with _ | ⟨v0, it0⟩
            all_goals
              (simp -implicitDefEqProofs +contextual (maxSteps := 8000000) only [go_sem, ↓reduceIte, zn0, zn1, zn2, zn3, zn4, reduceCtorEq, zn5, zi0, zi1, zi2, zi3, zi4, zn6, zn7, zn8, zn9, encTable, envTg, gnσ, i_table_goodName, i_table_goodEnum, i_table_goodMessage, h1, h3, h14, h15, h16, k0, hi, hlt, hm, hw, hz, hfi, hgn, hge, hput, forall_eq'])
              exact ⟨n - 1, by omega, i + 1, a, by simp [lk, h1, encTable], by simp [lk, h3], by simp [lk, h14], by simp [lk, h15], by simp [lk], by simp [lk_upd, et], by omega, by omega, g3.next hx hN ((tyOk_enum he).2 (dec_iff.1 hb2))⟩
        | false =>
          rw [he] at hm hge hgm
          generalize hb2 : dec (MsgOk t x) = b2 at hgm
          cases b2 with
          | false =>
            rcases hz : lk st.σ 1 with _ | ⟨v0, it0⟩
            all_goals
              (simp -implicitDefEqProofs +contextual (maxSteps := 8000000) only [go_sem, ↓reduceIte, zn0, zn1, zn2, zn3, zn4, reduceCtorEq, zn5, zi0, zi1, zi2, zi3, zi4, zn6, zn7, zn8, zn9, encTable, envTg, gnσ, i_table_goodName, i_table_goodEnum, i_table_goodMessage, h1, h3, h14, h15, h16, k0, hi, hlt, hm, hw, hz, hfi, hgn, hgm, hput, forall_eq'])
              exact no fun h => dec_iffF.1 hb2 ((tyOk_msg he).1 h.2)
          | true =>
            rcases hz : lk st.σ 1 with _ | ⟨v0, it0⟩
            all_goals
              (simp -implicitDefEqProofs +contextual (maxSteps := 8000000) only [go_sem, ↓reduceIte, zn0, zn1, zn2, zn3, zn4, reduceCtorEq, zn5, zi0, zi1, zi2, zi3, zi4, zn6, zn7, zn8, zn9, encTable, envTg, gnσ, i_table_goodName, i_table_goodEnum, i_table_goodMessage, h1, h3, h14, h15, h16, k0, hi, hlt, hm, hw, hz, hfi, hgn, hgm, hput, forall_eq'])
              exact ⟨n - 1, by omega, i + 1, a, by simp [lk, h1, encTable], by simp [lk, h3], by simp [lk, h14], by simp [lk, h15], by simp [lk], by simp [lk_upd, et], by omega, by omega, g3.next hx hN ((tyOk_msg he).2 (dec_iff.1 hb2))⟩
  have hlt : ¬ (i : Int) < (t.length : Int) := by omega
  obtain rfl : i = t.length := by omega
  (simp -implicitDefEqProofs +contextual (maxSteps := 8000000) only [go_sem, ↓reduceIte, zn0, zn1, zn2, zn3, zn4, reduceCtorEq, zn5, zi0, zi1, zi2, zi3, zi4, zn6, zn7, zn8, zn9, encTable, envTg, h1, h3, h14, h15, h16, k0, hi, hlt])
  exact (dec_true ⟨by omega, fun q x hx => g3 q x (List.getElem?_eq_some_iff.1 hx).1 hx⟩).symm
noncomputable def envRg : Env := { split := true, fc := [(i_cartoucheref7_named, g_ref7_named), (i_cartoucheref7_enum, g_cartoucheref7_enum), (i_cartoucheref7_message, g_cartoucheref7_message)] }
theorem envRg_ok : EnvOk Tryd.prog envRg := ((EnvOk.noneS.addF g_cartoucheref7_message_ok).addF g_cartoucheref7_enum_ok).addF g_ref7_named_ok
def RgI (t : List Ty) (n : Nat) (st : St) : Prop := ∃ i : Nat, lk st.ρ 1 = some (.iv (.ref (encTable t))) ∧ lk st.ρ 3 = some (.iv (.int .i64 (i : Int))) ∧ i ≤ t.length ∧ t.length < i + n ∧ GoodUp t i
theorem ref7_Good_fc (t : List Ty) (ht : okT t) : FC Tryd.prog i_cartoucheref7_Good [encTable t] (· = .bool (dec (GoodT t))) := by
  obtain ⟨z1, z2⟩ := ht
  by_cases c1 : 128 < (t.length : Int)
  · (refine FC.vc (envRg_ok) F_cartoucheref7_Good T_cartoucheref7_Good L_cartoucheref7_Good ?_; unfold A_cartoucheref7_Good; simp only [args0, zl0, zl1, zl2, zl3, zn1])
    (simp -implicitDefEqProofs +contextual (maxSteps := 8000000) only [go_sem, ↓reduceIte, zn0, zn1, zn2, zn3, zn4, reduceCtorEq, zn5, zi0, zi1, zi2, zi3, zi4, zn6, zn7, zn8, zn9, encTable, envRg, c1])
    exact (dec_false fun h => by have := h.1; omega).symm
  (refine FC.vc (envRg_ok) F_cartoucheref7_Good T_cartoucheref7_Good L_cartoucheref7_Good ?_; unfold A_cartoucheref7_Good; simp only [args0, zl0, zl1, zl2, zl3, zn1])
  (simp -implicitDefEqProofs +contextual (maxSteps := 8000000) only [go_sem, ↓reduceIte, zn0, zn1, zn2, zn3, zn4, reduceCtorEq, zn5, zi0, zi1, zi2, zi3, zi4, zn6, zn7, zn8, zn9, encTable, envRg, c1])
  refine vc_loop (RgI t) (t.length + 1) ⟨0, by simp [lk, encTable], by simp [lk], by omega, by omega, fun q x hq => absurd hq (by omega)⟩ ?_
  rintro n st ⟨i, h1, h3, g1, g2, g3⟩
  simp only [encTable] at h1
  by_cases hi : i < t.length
  · obtain ⟨x, hx⟩ : ∃ x, t[i]? = some x := ⟨t[i], by simp [hi]⟩
    have hm := get_map (f := encTy) hx
    simp only [encTy] at hm
    have hw := wrap1 hi (by omega)
    have hlt : (i : Int) < (t.length : Int) := by omega
    have hok := z2 x (List.mem_of_getElem? hx)
    have no : ¬ (NameOk (t.take i) x ∧ TyOk t x) → false = dec (GoodT t) := fun h => (dec_false fun hG => h (hG.2 i x hx)).symm
    have hgn := g_ref7_named_is hx hok.1 z1
    have hge := g_cartoucheref7_enum_is x
    have hgm := g_cartoucheref7_message_is t x
    rw [if_pos hok] at hge hgm
    simp only [encTy, encTable] at hge hgm hgn
    generalize hb : dec (NameOk (t.take i) x) = b at hgn
    cases b with
    | false =>
      rcases hz : lk st.σ 0 with _ | ⟨v0, it0⟩
      all_goals
        (simp -implicitDefEqProofs +contextual (maxSteps := 8000000) only [go_sem, ↓reduceIte, zn0, zn1, zn2, zn3, zn4, reduceCtorEq, zn5, zi0, zi1, zi2, zi3, zi4, zn6, zn7, zn8, zn9, encTable, envRg, i_cartoucheref7_named, i_cartoucheref7_enum, i_cartoucheref7_message, h1, h3, hi, hlt, hm, hw, hz, hgn, forall_eq'])
        exact no fun h => dec_iffF.1 hb h.1
    | true =>
      have hN := dec_iff.1 hb
      cases he : x.enum with
      | true =>
        rw [he] at hm hge hgm
        generalize hb2 : dec (EnumOk x) = b2 at hge
        cases b2 with
        | false =>
          rcases hz : lk st.σ 0 with _ | ⟨v0, it0⟩
          all_goals
            (simp -implicitDefEqProofs +contextual (maxSteps := 8000000) only [go_sem, ↓reduceIte, zn0, zn1, zn2, zn3, zn4, reduceCtorEq, zn5, zi0, zi1, zi2, zi3, zi4, zn6, zn7, zn8, zn9, encTable, envRg, i_cartoucheref7_named, i_cartoucheref7_enum, i_cartoucheref7_message, h1, h3, hi, hlt, hm, hw, hz, hgn, hge, forall_eq'])
            exact no fun h => dec_iffF.1 hb2 ((tyOk_enum he).1 h.2)
        | true =>
          rcases hz : lk st.σ 0 with _ | ⟨v0, it0⟩
          all_goals
            (simp -implicitDefEqProofs +contextual (maxSteps := 8000000) only [go_sem, ↓reduceIte, zn0, zn1, zn2, zn3, zn4, reduceCtorEq, zn5, zi0, zi1, zi2, zi3, zi4, zn6, zn7, zn8, zn9, encTable, envRg, i_cartoucheref7_named, i_cartoucheref7_enum, i_cartoucheref7_message, h1, h3, hi, hlt, hm, hw, hz, hgn, hge, forall_eq'])
            exact ⟨n - 1, by omega, i + 1, by simp [lk, h1, encTable], by simp [lk], by omega, by omega, g3.next hx hN ((tyOk_enum he).2 (dec_iff.1 hb2))⟩
      | false =>
        rw [he] at hm hge hgm
        generalize hb2 : dec (MsgOk t x) = b2 at hgm
        cases b2 with
        | false =>
          rcases hz : lk st.σ 0 with _ | ⟨v0, it0⟩
          all_goals
            (simp -implicitDefEqProofs +contextual (maxSteps := 8000000) only [go_sem, ↓reduceIte, zn0, zn1, zn2, zn3, zn4, reduceCtorEq, zn5, zi0, zi1, zi2, zi3, zi4, zn6, zn7, zn8, zn9, encTable, envRg, i_cartoucheref7_named, i_cartoucheref7_enum, i_cartoucheref7_message, h1, h3, hi, hlt, hm, hw, hz, hgn, hgm, forall_eq'])
            exact no fun h => dec_iffF.1 hb2 ((tyOk_msg he).1 h.2)
        | true =>
          rcases hz : lk st.σ 0 with _ | ⟨v0, it0⟩
          all_goals
            (simp -implicitDefEqProofs +contextual (maxSteps := 8000000) only [go_sem, ↓reduceIte, zn0, zn1, zn2, zn3, zn4, reduceCtorEq, zn5, zi0, zi1, zi2, zi3, zi4, zn6, zn7, zn8, zn9, encTable, envRg, i_cartoucheref7_named, i_cartoucheref7_enum, i_cartoucheref7_message, h1, h3, hi, hlt, hm, hw, hz, hgn, hgm, forall_eq'])
            exact ⟨n - 1, by omega, i + 1, by simp [lk, h1, encTable], by simp [lk], by omega, by omega, g3.next hx hN ((tyOk_msg he).2 (dec_iff.1 hb2))⟩
  have hlt : ¬ (i : Int) < (t.length : Int) := by omega
  obtain rfl : i = t.length := by omega
  (simp -implicitDefEqProofs +contextual (maxSteps := 8000000) only [go_sem, ↓reduceIte, zn0, zn1, zn2, zn3, zn4, reduceCtorEq, zn5, zi0, zi1, zi2, zi3, zi4, zn6, zn7, zn8, zn9, encTable, envRg, h1, h3, hi, hlt])
  exact (dec_true ⟨by omega, fun q x hx => g3 q x (List.getElem?_eq_some_iff.1 hx).1 hx⟩).symm
open Classical
noncomputable def g_table_Good : List IV → Option IV
  | [t_] => (match decTable t_ with
    | some t => if okT t then some (.bool (dec (GoodT t))) else none
    | none => none)
  | _ => none
theorem g_table_Good_is (t : List Ty) : g_table_Good [encTable t] = if okT t then some (.bool (dec (GoodT t))) else none := by
  simp only [g_table_Good, decTable_enc]
theorem g_table_Good_ok : ∀ xs r, g_table_Good xs = some r → FC Tryd.prog i_table_Good xs (· = r) := by
  intro xs r h
  unfold g_table_Good at h
  split at h
  · rename_i t_
    split at h
    · rename_i t ht
      split at h
      · rename_i hpre
        injection h with h; subst h
        have := decTable_enc_inv ht; subst this
        exact Good_fc t hpre
      · cases h
    · cases h
  · cases h

noncomputable def g_cartoucheref7_Good : List IV → Option IV
  | [t_] => (match decTable t_ with
    | some t => if okT t then some (.bool (dec (GoodT t))) else none
    | none => none)
  | _ => none
theorem g_cartoucheref7_Good_is (t : List Ty) : g_cartoucheref7_Good [encTable t] = if okT t then some (.bool (dec (GoodT t))) else none := by
  simp only [g_cartoucheref7_Good, decTable_enc]
theorem g_cartoucheref7_Good_ok : ∀ xs r, g_cartoucheref7_Good xs = some r → FC Tryd.prog i_cartoucheref7_Good xs (· = r) := by
  intro xs r h
  unfold g_cartoucheref7_Good at h
  split at h
  · rename_i t_
    split at h
    · rename_i t ht
      split at h
      · rename_i hpre
        injection h with h; subst h
        have := decTable_enc_inv ht; subst this
        exact ref7_Good_fc t hpre
      · cases h
    · cases h
  · cases h

end Go.Proofs.YtmdkcapbahjipaaDoor.Ag
namespace Go.Proofs.YtmdkcapbahjipaaDoor.Ag
def findI (t : List Ty) (name : ByteArray) : Option Nat := t.findIdx? fun y => decide (y.name = name)
theorem findI_some {t : List Ty} {name : ByteArray} {i : Nat} {y : Ty} (hb : ∀ z ∈ t.take i, z.name ≠ name) (hy : t[i]? = some y) (he : y.name = name) : findI t name = some i := by
  unfold findI
  rw [List.findIdx?_eq_some_iff_getElem]
  obtain ⟨h1, h2⟩ := List.getElem?_eq_some_iff.1 hy
  refine ⟨h1, by simp [h2, he], fun j hj => ?_⟩
  have : t[j]'(by omega) ∈ t.take i := List.mem_of_getElem? (i := j) (by rw [List.getElem?_take, if_pos hj]; simp)
  simpa using hb _ this
theorem findI_none {t : List Ty} {name : ByteArray} (hb : ∀ z ∈ t, z.name ≠ name) : findI t name = none := by
  unfold findI
  rw [List.findIdx?_eq_none_iff]
  intro z hz; simpa using hb z hz
def findR (t : List Ty) (name : ByteArray) : IV := match findI t name with | some i => .int .i64 (i : Int) | none => .int .i64 (-1)
def FrI (t : List Ty) (name : ByteArray) (n : Nat) (st : St) : Prop := ∃ i : Nat, lk st.ρ 1 = some (.iv (.str name)) ∧ lk st.ρ 2 = some (.iv (.ref (encTable t))) ∧ lk st.ρ 5 = some (.iv (.int .i64 (i : Int))) ∧ i ≤ t.length ∧ t.length < i + n ∧ ∀ z ∈ t.take i, z.name ≠ name
theorem ref7_Find_fc (t : List Ty) (name : ByteArray) (ht : t.length ≤ 2000000) : FC Tryd.prog i_cartoucheref7_Find [encTable t, .str name] (· = findR t name) := by
  unfold findR
  (refine FC.vc (envNo_ok) F_cartoucheref7_Find T_cartoucheref7_Find L_cartoucheref7_Find ?_; unfold A_cartoucheref7_Find; simp only [args0, zl0, zl1, zl2, zl3, zn1])
  (simp -implicitDefEqProofs +contextual (maxSteps := 8000000) only [go_sem, ↓reduceIte, zn0, zn1, zn2, zn3, zn4, reduceCtorEq, zn5, zi0, zi1, zi2, zi3, zi4, zn6, zn7, zn8, zn9, encTable])
  refine vc_loop (FrI t name) (t.length + 1) ⟨0, by simp [lk], by simp [lk, encTable], by simp [lk], by omega, by omega, by simp⟩ ?_
  rintro n st ⟨i, h1, h2, h5, g1, g2, g3⟩
  simp only [encTable] at h2
  by_cases hi : i < t.length
  · obtain ⟨x, hx⟩ : ∃ x, t[i]? = some x := ⟨t[i], by simp [hi]⟩
    have hm := get_map (f := encTy) hx
    simp only [encTy] at hm
    have hw := wrap1 hi (by omega)
    have hlt : (i : Int) < (t.length : Int) := by omega
    by_cases e1 : x.name = name
    · have hf := findI_some g3 hx e1
      (simp -implicitDefEqProofs +contextual (maxSteps := 8000000) only [go_sem, ↓reduceIte, zn0, zn1, zn2, zn3, zn4, reduceCtorEq, zn5, zi0, zi1, zi2, zi3, zi4, zn6, zn7, zn8, zn9, encTable, h1, h2, h5, hi, hlt, hm, hw, e1, hf, forall_eq'])
    · (simp -implicitDefEqProofs +contextual (maxSteps := 8000000) only [go_sem, ↓reduceIte, zn0, zn1, zn2, zn3, zn4, reduceCtorEq, zn5, zi0, zi1, zi2, zi3, zi4, zn6, zn7, zn8, zn9, encTable, h1, h2, h5, hi, hlt, hm, hw, e1, forall_eq'])
      exact ⟨n - 1, by omega, i + 1, by simp [lk, h1], by simp [lk, h2, encTable], by simp [lk], by omega, by omega, mem_take_snoc g3 hx e1⟩
  · have hlt : ¬ (i : Int) < (t.length : Int) := by omega
    rw [List.take_of_length_le (by omega)] at g3
    have hf := findI_none g3
    (simp -implicitDefEqProofs +contextual (maxSteps := 8000000) only [go_sem, ↓reduceIte, zn0, zn1, zn2, zn3, zn4, reduceCtorEq, zn5, zi0, zi1, zi2, zi3, zi4, zn6, zn7, zn8, zn9, encTable, h1, h2, h5, hi, hlt, hf])
open Classical
noncomputable def g_cartoucheref7_Find : List IV → Option IV
  | [t_, .str name] => (match decTable t_ with
    | some t => if t.length ≤ 2000000 then some (findR t name) else none
    | none => none)
  | _ => none
theorem g_cartoucheref7_Find_is (t : List Ty) (name : ByteArray) : g_cartoucheref7_Find [encTable t, .str name] = if t.length ≤ 2000000 then some (findR t name) else none := by
  simp only [g_cartoucheref7_Find, decTable_enc]
theorem g_cartoucheref7_Find_ok : ∀ xs r, g_cartoucheref7_Find xs = some r → FC Tryd.prog i_cartoucheref7_Find xs (· = r) := by
  intro xs r h
  unfold g_cartoucheref7_Find at h
  split at h
  · rename_i t_ name
    split at h
    · rename_i t ht
      split at h
      · rename_i hpre
        injection h with h; subst h
        have := decTable_enc_inv ht; subst this
        exact ref7_Find_fc t name hpre
      · cases h
    · cases h
  · cases h

end Go.Proofs.YtmdkcapbahjipaaDoor.Ag
