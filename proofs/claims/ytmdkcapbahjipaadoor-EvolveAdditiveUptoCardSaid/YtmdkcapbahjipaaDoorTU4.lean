/- The changes of a message, gathered. -/
import Derived.Test.YtmdkcapbahjipaaDoorTU2
import Derived.Test.YtmdkcapbahjipaaDoorTU3
import Derived.Test.YtmdkcapbahjipaaDoorTAirG
import Derived.Test.YtmdkcapbahjipaaDoorTM6
set_option linter.unusedVariables false
set_option linter.unusedSimpArgs false
set_option maxRecDepth 100000
set_option maxHeartbeats 8000000
open List renaming map_cons → zl0, map_nil → zl1, zipIdx_cons → zl2, zipIdx_nil → zl3
open Nat renaming reduceEqDiff → zn0, reduceAdd → zn1, reduceSub → zn2, reduceLeDiff → zn3, reduceMul → zn4, reduceBEq → zn5, reducePow → zn6, reduceLT → zn7, reduceDiv → zn8, reduceMod → zn9
open Int renaming reduceLT → zi0, reduceLE → zi1, reduceNeg → zi2, reduceEq → zi3, reduceToNat → zi4
namespace Go.Proofs.YtmdkcapbahjipaaDoor.Ag
attribute [local go_sem] i_evolve_differ_add i_evolve_differ_enums i_evolve_differ_messages i_evolve_byName i_table_Good i_table_At i_evolve_class i_evolve_numbers i_slices_Equal_api_Range_api_Range i_evolve_within i_evolve_differ_field
attribute [-go_sem] Int.not_lt Int.not_le
attribute [-go_sem] nxt
def dV (q : Nat) : Bool := decide (82 ≤ q ∧ q ≤ 93)
theorem avT_mono {d e : Nat → Bool} (h : ∀ q, e q = true → d q = true) {t : TV} (ha : avT d t = true) : avT e t = true := by
  have k : ∀ q, (!d q) = true → (!e q) = true := by
    intro q hq
    cases he : e q with
    | false => rfl
    | true => rw [h q he] at hq; cases hq
  cases t with
  | iv x => rfl
  | dead => rfl
  | loc q _ _ => exact k q ha
  | lst q _ => exact k q ha
  | el q _ _ _ _ => exact k q ha
  | mp q _ => exact k q ha
  | itr q _ => exact k q ha
  | tup l => cases l with
    | nil => rfl
    | cons a l => cases ha
  | ifb _ _ => cases ha
  | agg _ => cases ha
  | fn _ _ _ => cases ha
theorem avI_mono {d e : Nat → Bool} (h : ∀ q, e q = true → d q = true) {it : Item} (ha : avI d it = true) : avI e it = true := by
  cases it with
  | gone => rfl
  | froz _ => rfl
  | box cs => exact List.all_eq_true.2 fun c hc => avT_mono h (List.all_eq_true.1 ha c hc)
  | list _ _ _ => rfl
  | tl _ _ cs => exact List.all_eq_true.2 fun c hc => avT_mono h (List.all_eq_true.1 ha c hc)
  | map _ es => exact List.all_eq_true.2 fun c hc => avT_mono h (List.all_eq_true.1 ha c hc)
  | siter _ _ => rfl
def Av (σ : Slots) : Prop := ∀ q n it, lk σ q = some (n, it) → avI dV it = true
theorem Av.up {σ : Slots} (h : Av σ) {q n : Nat} {it : Item} (hi : avI dV it = true) : Av (upd σ q (n, it)) := by
  intro p m jt hp
  rw [lk_upd] at hp
  split at hp
  · simp only [Option.some.injEq, Prod.mk.injEq] at hp; obtain ⟨_, rfl⟩ := hp; exact hi
  · exact h p m jt hp
theorem Av.add {σ : Slots} (h : Av σ) {v : Nat} {ta tb : List Ty} {l cs : List Chg} : Av (addAll σ 0 v (tvT ta) (tvT tb) l cs) := addAll_av (by decide) h rfl rfl
theorem Av.to {σ : Slots} (h : Av σ) {e : Nat → Bool} (he : ∀ q, e q = true → dV q = true) : ∀ q n it, lk σ q = some (n, it) → avI e it = true := fun q n it hq => avI_mono he (h q n it hq)
theorem dFd_dV : ∀ q, dFd q = true → dV q = true := by intro q; simp only [dFd, dV, decide_eq_true_eq]; omega
theorem dEn_dV : ∀ q, dEn q = true → dV q = true := by intro q; simp only [dEn, dV, decide_eq_true_eq]; omega
def dMs (q : Nat) : Bool := decide (86 ≤ q ∧ q ≤ 89)
theorem dMs_dV : ∀ q, dMs q = true → dV q = true := by intro q; simp only [dMs, dV, decide_eq_true_eq]; omega
def FOk (t : List Ty) (x : Ty) : Prop := ∀ f ∈ x.fields, ((f.kind = 16 ∨ f.kind = 17) → 0 ≤ f.ref ∧ ∃ z, t[f.ref.toNat]? = some z) ∧ (f.label = 4 → 0 ≤ f.oneof ∧ ∃ z, x.oneofs[f.oneof.toNat]? = some z)
noncomputable def ms1 (ta tb : List Ty) (x y : Ty) (f : FT) : List Chg := match atF y.fields f.number with
  | some g => fieldC ta tb x y f g
  | none => [⟨4, 5, x.name, f.number⟩]
def ms2 (x : Ty) (g : FT) : List Chg := match atF x.fields g.number with
  | some _ => []
  | none => [⟨2, 6, x.name, g.number⟩]
noncomputable def ms3 (x y : Ty) : List Chg := if eqR (numsF x.rsv) (numsF y.rsv) = true then [] else [⟨clsN (withinB (numsF x.rsv) (numsF y.rsv)), 10, x.name, 0⟩]
noncomputable def messagesC (ta tb : List Ty) (x y : Ty) : List Chg := x.fields.flatMap (ms1 ta tb x y) ++ y.fields.flatMap (ms2 x) ++ ms3 x y
theorem ms1_len (ta tb : List Ty) (x y : Ty) (f : FT) : (ms1 ta tb x y f).length ≤ 3 := by
  unfold ms1
  split
  · exact fieldC_len _ _ _ _ _ _
  · simp
theorem ms2_len (x : Ty) (f : FT) : (ms2 x f).length ≤ 3 := by unfold ms2; split <;> simp
theorem ms3_len (x y : Ty) : (ms3 x y).length ≤ 1 := by unfold ms3; split <;> simp
theorem flatMap_len3 {α : Type} {g : α → List Chg} (hg : ∀ s, (g s).length ≤ 3) : ∀ l : List α, (l.flatMap g).length ≤ 3 * l.length
  | [] => by simp
  | s :: l => by
    have h1 := hg s
    have h2 := flatMap_len3 hg l
    simp only [List.flatMap_cons, List.length_append, List.length_cons]; omega
theorem atF_mem {l : List FT} {n : Int} {g : FT} (h : atF l n = some g) : g ∈ l := List.mem_of_find?_eq_some h
noncomputable def envMs : Env := { split := true, fc := [(i_table_At, g_table_At), (i_evolve_class, g_evolve_class), (i_evolve_numbers, g_evolve_numbers), (i_slices_Equal_api_Range_api_Range, g_slices_Equal_api_Range_api_Range), (i_evolve_within, g_evolve_within)], gr := [(54, fun vs σ Q => GC Tryd.prog 54 vs σ Q), (74, fun vs σ Q => GC Tryd.prog 74 vs σ Q)] }
theorem callOk74 : callOk Tryd.prog 74 = true := by kernel_rfl
theorem envMs_ok : EnvOk Tryd.prog envMs := ((((((EnvOk.noneS.addR callOk74).addR callOk54).addF g_evolve_within_ok).addF g_slices_Equal_api_Range_api_Range_ok).addF g_evolve_numbers_ok).addF g_evolve_class_ok).addF g_table_At_ok
def MsI (ta tb : List Ty) (x y : Ty) (σ : Slots) (v : Nat) (l : List Chg) (n : Nat) (st : St) : Prop := ∃ j : Nat, lk st.ρ 0 = some (.loc 0 v 0) ∧ lk st.ρ 4 = some (.iv (.ref (encTy x))) ∧ lk st.ρ 5 = some (.iv (.ref (encTy y))) ∧
  lk st.ρ 17 = some (.iv (.slice (x.fields.map encFT))) ∧ lk st.ρ 18 = some (.iv (.int .i64 (x.fields.length : Int))) ∧ lk st.ρ 19 = some (.iv (.int .i64 (j : Int))) ∧
  SameD dMs st.σ (addAll σ 0 v (tvT ta) (tvT tb) l ((x.fields.take j).flatMap (ms1 ta tb x y))) ∧ Av st.σ ∧ j ≤ x.fields.length ∧ x.fields.length < j + n
def MsJ (ta tb : List Ty) (x y : Ty) (σ : Slots) (v : Nat) (l : List Chg) (n : Nat) (st : St) : Prop := ∃ j : Nat, lk st.ρ 0 = some (.loc 0 v 0) ∧ lk st.ρ 4 = some (.iv (.ref (encTy x))) ∧ lk st.ρ 5 = some (.iv (.ref (encTy y))) ∧
  lk st.ρ 45 = some (.iv (.slice (y.fields.map encFT))) ∧ lk st.ρ 46 = some (.iv (.int .i64 (y.fields.length : Int))) ∧ lk st.ρ 47 = some (.iv (.int .i64 (j : Int))) ∧
  SameD dMs st.σ (addAll σ 0 v (tvT ta) (tvT tb) l (x.fields.flatMap (ms1 ta tb x y) ++ (y.fields.take j).flatMap (ms2 x))) ∧ Av st.σ ∧ j ≤ y.fields.length ∧ y.fields.length < j + n
def msA : ACode := sq1 (sq2 A_evolve_differ_messages.code)
def msB : ACode := sq1 (sq2 (sq2 A_evolve_differ_messages.code))
def msC : ACode := sq2 (sq2 (sq2 A_evolve_differ_messages.code))
def MsS (ta tb : List Ty) (x y : Ty) (σ : Slots) (v : Nat) (l cs : List Chg) (st : St) : Prop := lk st.ρ 0 = some (.loc 0 v 0) ∧ lk st.ρ 4 = some (.iv (.ref (encTy x))) ∧ lk st.ρ 5 = some (.iv (.ref (encTy y))) ∧
  SameD dMs st.σ (addAll σ 0 v (tvT ta) (tvT tb) l cs) ∧ Av st.σ
section
variable (ta tb : List Ty) (x y : Ty) (σ : Slots) (v : Nat) (l : List Chg) (Q : AEx → St → Prop) (s : St)
theorem msA_vc (h : MsS ta tb x y σ v l [] s) (hl : l.length ≤ 1000000000000) (ho : OutP σ 0 v (tvT ta) (tvT tb) l) (h82 : lk σ 82 = none)
    (hrx : Rising x.fields) (hry : Rising y.fields) (hx : x.fields.length ≤ 2000000) (hy : y.fields.length ≤ 2000000) (hfx : FOk ta x) (hfy : FOk tb y)
    (hQ : ∀ s', MsS ta tb x y σ v l (x.fields.flatMap (ms1 ta tb x y)) s' → Q .normal s') : vc envMs msA Q s := by
  obtain ⟨p0, p4, p5, hs, hav⟩ := h
  simp only [encTy] at p4 p5
  simp only [msA, A_evolve_differ_messages, sq1, sq2]
  (simp -implicitDefEqProofs +contextual (maxSteps := 8000000) only [go_sem, ↓reduceIte, zn0, zn1, zn2, zn3, zn4, reduceCtorEq, zn5, zi0, zi1, zi2, zi3, zi4, zn6, zn7, zn8, zn9, envMs, p0, p4, p5])
  refine vc_loop (MsI ta tb x y σ v l) (x.fields.length + 1) ⟨0, by simp [lk, p0], by simp [lk, p4, encTy], by simp [lk, p5, encTy], by simp [lk], by simp [lk], by simp [lk], by simpa using hs, by simpa using hav, by omega, by omega⟩ ?_
  clear p0 p4 p5 hs hav
  rintro n st ⟨j, p0, p4, p5, p17, p18, p19, hs, hav, g1, g2⟩
  simp only [encTy] at p4 p5
  have hlen := flatMap_len3 (ms1_len ta tb x y) (x.fields.take j)
  rw [List.length_take] at hlen
  by_cases hj : j < x.fields.length
  · obtain ⟨f, hf⟩ : ∃ f, x.fields[j]? = some f := ⟨x.fields[j], by simp [hj]⟩
    have hmf := get_map (f := encFT) hf
    simp only [encFT] at hmf
    have hw := wrap1 hj (by omega)
    have hlt : (j : Int) < (x.fields.length : Int) := by omega
    have et : x.fields.take (j + 1) = x.fields.take j ++ [f] := by rw [List.take_add_one, hf]; rfl
    have hat := g_table_At_is y f.number
    rw [if_pos ⟨hry, hy⟩] at hat
    simp only [encTy] at hat
    have hst : (x.fields.take (j + 1)).flatMap (ms1 ta tb x y) = (x.fields.take j).flatMap (ms1 ta tb x y) ++ ms1 ta tb x y f := by rw [et, List.flatMap_append]; simp
    have hsz : ((l ++ (x.fields.take j).flatMap (ms1 ta tb x y)).length + 1) * 40 ≤ 140737488355328 := by rw [List.length_append]; omega
    have ho2 := hs.out (by decide) (by decide) (addAll_out _ (by decide) ho)
    cases ha : atF y.fields f.number with
    | none =>
      rw [ha] at hat
      simp only [encAt, encFT] at hat
      have he : ms1 ta tb x y f = [⟨4, 5, x.name, f.number⟩] := by simp [ms1, ha]
      (simp -implicitDefEqProofs +contextual (maxSteps := 8000000) only [go_sem, ↓reduceIte, zn0, zn1, zn2, zn3, zn4, reduceCtorEq, zn5, zi0, zi1, zi2, zi3, zi4, zn6, zn7, zn8, zn9, envMs, p0, p4, p5, p17, p18, p19, hj, hlt, hmf, hw, hat, zft, forall_eq'])
      refine vcExD_mk (.tup []) (addAll _ 0 v (tvT ta) (tvT tb) (l ++ (x.fields.take j).flatMap (ms1 ta tb x y)) [⟨4, 5, x.name, f.number⟩]) (add_gc ⟨4, 5, x.name, f.number⟩ (by decide) (((((hs.up (q := 86) (by decide)).up (q := 86) (by decide)).up (q := 87) (by decide)).up (q := 87) (by decide)).out (by decide) (by decide) (addAll_out _ (by decide) ho)) hsz) ?_
      (simp -implicitDefEqProofs +contextual (maxSteps := 8000000) only [go_sem, ↓reduceIte, zn0, zn1, zn2, zn3, zn4, reduceCtorEq, zn5, zi0, zi1, zi2, zi3, zi4, zn6, zn7, zn8, zn9, envMs, p0, p4, p5, p17, p18, p19, hw])
      refine ⟨n - 1, by omega, j + 1, by simp [lk, p0], by simp [lk, p4, encTy], by simp [lk, p5, encTy], by simp [lk, p17], by simp [lk, p18], by simp [lk], ?_, by (try dsimp only); refine Av.add ?_; exact Av.up (Av.up (Av.up (Av.up hav rfl) rfl) rfl) rfl, by omega, by omega⟩
      rw [hst, he, ← addAll_addAll _ _ (by decide) ho]
      dsimp only
      exact SameD.add ((((hs.up (q := 86) (by decide)).up (q := 86) (by decide)).up (q := 87) (by decide)).up (q := 87) (by decide)) (by decide)
    | some g =>
      rw [ha] at hat
      simp only [encAt, encFT] at hat
      have he : ms1 ta tb x y f = fieldC ta tb x y f g := by simp [ms1, ha]
      have hgm := atF_mem ha
      have hfm := List.mem_of_getElem? hf
      (simp -implicitDefEqProofs +contextual (maxSteps := 8000000) only [go_sem, ↓reduceIte, zn0, zn1, zn2, zn3, zn4, reduceCtorEq, zn5, zi0, zi1, zi2, zi3, zi4, zn6, zn7, zn8, zn9, envMs, p0, p4, p5, p17, p18, p19, hj, hlt, hmf, hw, hat, forall_eq'])
      refine vcExD_mk (.tup []) (addAll _ 0 v (tvT ta) (tvT tb) (l ++ (x.fields.take j).flatMap (ms1 ta tb x y)) (fieldC ta tb x y f g)) (field_gcD ta tb x y f g _ v _ (by rw [List.length_append]; omega) (((((hs.up (q := 86) (by decide)).up (q := 86) (by decide)).up (q := 87) (by decide)).up (q := 87) (by decide)).out (by decide) (by decide) (addAll_out _ (by decide) ho)) (hfx f hfm).1 (hfy g hgm).1 (hfx f hfm).2 (hfy g hgm).2 ?_ (Av.to (Av.up (Av.up (Av.up (Av.up hav rfl) rfl) rfl) rfl) dFd_dV)) ?_
      · intro q hq
        have : q = 82 := by simpa [dFd] using hq
        subst this
        rw [((((hs.up (q := 86) (by decide)).up (q := 86) (by decide)).up (q := 87) (by decide)).up (q := 87) (by decide)) 82 (by decide), addAll_lk (by decide) (by decide)]; exact h82
      (simp -implicitDefEqProofs +contextual (maxSteps := 8000000) only [go_sem, ↓reduceIte, zn0, zn1, zn2, zn3, zn4, reduceCtorEq, zn5, zi0, zi1, zi2, zi3, zi4, zn6, zn7, zn8, zn9, envMs, p0, p4, p5, p17, p18, p19, hw])
      refine ⟨n - 1, by omega, j + 1, by simp [lk, p0], by simp [lk, p4, encTy], by simp [lk, p5, encTy], by simp [lk, p17], by simp [lk, p18], by simp [lk], ?_, by (try dsimp only); refine Av.add ?_; exact Av.up (Av.up (Av.up (Av.up hav rfl) rfl) rfl) rfl, by omega, by omega⟩
      rw [hst, he, ← addAll_addAll _ _ (by decide) ho]
      dsimp only
      exact SameD.add ((((hs.up (q := 86) (by decide)).up (q := 86) (by decide)).up (q := 87) (by decide)).up (q := 87) (by decide)) (by decide)
  · have hlt : ¬ (j : Int) < (x.fields.length : Int) := by omega
    rw [List.take_of_length_le (by omega)] at hs
    (simp -implicitDefEqProofs +contextual (maxSteps := 8000000) only [go_sem, ↓reduceIte, zn0, zn1, zn2, zn3, zn4, reduceCtorEq, zn5, zi0, zi1, zi2, zi3, zi4, zn6, zn7, zn8, zn9, envMs, p0, p4, p5, p17, p18, p19, hj, hlt])
    exact hQ _ ⟨by simp [lk, p0], by simp [lk, p4, encTy], by simp [lk, p5, encTy], hs, hav⟩
theorem msB_vc (h : MsS ta tb x y σ v l (x.fields.flatMap (ms1 ta tb x y)) s) (hl : l.length ≤ 1000000000000) (ho : OutP σ 0 v (tvT ta) (tvT tb) l)
    (hrx : Rising x.fields) (hx : x.fields.length ≤ 2000000) (hy : y.fields.length ≤ 2000000)
    (hQ : ∀ s', MsS ta tb x y σ v l (x.fields.flatMap (ms1 ta tb x y) ++ y.fields.flatMap (ms2 x)) s' → Q .normal s') : vc envMs msB Q s := by
  obtain ⟨p0, p4, p5, hs, hav⟩ := h
  simp only [encTy] at p4 p5
  simp only [msB, A_evolve_differ_messages, sq1, sq2]
  (simp -implicitDefEqProofs +contextual (maxSteps := 8000000) only [go_sem, ↓reduceIte, zn0, zn1, zn2, zn3, zn4, reduceCtorEq, zn5, zi0, zi1, zi2, zi3, zi4, zn6, zn7, zn8, zn9, envMs, p0, p4, p5])
  refine vc_loop (MsJ ta tb x y σ v l) (y.fields.length + 1) ⟨0, by simp [lk, p0], by simp [lk, p4, encTy], by simp [lk, p5, encTy], by simp [lk], by simp [lk], by simp [lk], by simpa using hs, by simpa using hav, by omega, by omega⟩ ?_
  clear p0 p4 p5 hs hav
  rintro n st ⟨j, p0, p4, p5, p45, p46, p47, hs, hav, g1, g2⟩
  simp only [encTy] at p4 p5
  have hlen := flatMap_len3 (ms2_len x) (y.fields.take j)
  have hlen1 := flatMap_len3 (ms1_len ta tb x y) x.fields
  rw [List.length_take] at hlen
  by_cases hj : j < y.fields.length
  · obtain ⟨f, hf⟩ : ∃ f, y.fields[j]? = some f := ⟨y.fields[j], by simp [hj]⟩
    have hmf := get_map (f := encFT) hf
    simp only [encFT] at hmf
    have hw := wrap1 hj (by omega)
    have hlt : (j : Int) < (y.fields.length : Int) := by omega
    have et : y.fields.take (j + 1) = y.fields.take j ++ [f] := by rw [List.take_add_one, hf]; rfl
    have hat := g_table_At_is x f.number
    rw [if_pos ⟨hrx, hx⟩] at hat
    simp only [encTy] at hat
    have hst : x.fields.flatMap (ms1 ta tb x y) ++ (y.fields.take (j + 1)).flatMap (ms2 x) = (x.fields.flatMap (ms1 ta tb x y) ++ (y.fields.take j).flatMap (ms2 x)) ++ ms2 x f := by rw [et, List.flatMap_append]; simp
    have hsz : ((l ++ (x.fields.flatMap (ms1 ta tb x y) ++ (y.fields.take j).flatMap (ms2 x))).length + 1) * 40 ≤ 140737488355328 := by rw [List.length_append, List.length_append]; omega
    cases ha : atF x.fields f.number with
    | none =>
      rw [ha] at hat
      simp only [encAt, encFT] at hat
      have he : ms2 x f = [⟨2, 6, x.name, f.number⟩] := by simp [ms2, ha]
      (simp -implicitDefEqProofs +contextual (maxSteps := 8000000) only [go_sem, ↓reduceIte, zn0, zn1, zn2, zn3, zn4, reduceCtorEq, zn5, zi0, zi1, zi2, zi3, zi4, zn6, zn7, zn8, zn9, envMs, p0, p4, p5, p45, p46, p47, hj, hlt, hmf, hw, hat, zft, forall_eq'])
      refine vcExD_mk (.tup []) (addAll _ 0 v (tvT ta) (tvT tb) (l ++ (x.fields.flatMap (ms1 ta tb x y) ++ (y.fields.take j).flatMap (ms2 x))) [⟨2, 6, x.name, f.number⟩]) (add_gc ⟨2, 6, x.name, f.number⟩ (by decide) (((((hs.up (q := 88) (by decide)).up (q := 88) (by decide)).up (q := 89) (by decide)).up (q := 89) (by decide)).out (by decide) (by decide) (addAll_out _ (by decide) ho)) hsz) ?_
      (simp -implicitDefEqProofs +contextual (maxSteps := 8000000) only [go_sem, ↓reduceIte, zn0, zn1, zn2, zn3, zn4, reduceCtorEq, zn5, zi0, zi1, zi2, zi3, zi4, zn6, zn7, zn8, zn9, envMs, p0, p4, p5, p45, p46, p47, hw])
      refine ⟨n - 1, by omega, j + 1, by simp [lk, p0], by simp [lk, p4, encTy], by simp [lk, p5, encTy], by simp [lk, p45], by simp [lk, p46], by simp [lk], ?_, by (try dsimp only); refine Av.add ?_; exact Av.up (Av.up (Av.up (Av.up hav rfl) rfl) rfl) rfl, by omega, by omega⟩
      rw [hst, he, ← addAll_addAll _ _ (by decide) ho]
      dsimp only
      exact SameD.add ((((hs.up (q := 88) (by decide)).up (q := 88) (by decide)).up (q := 89) (by decide)).up (q := 89) (by decide)) (by decide)
    | some g =>
      rw [ha] at hat
      simp only [encAt, encFT] at hat
      have he : ms2 x f = [] := by simp [ms2, ha]
      (simp -implicitDefEqProofs +contextual (maxSteps := 8000000) only [go_sem, ↓reduceIte, zn0, zn1, zn2, zn3, zn4, reduceCtorEq, zn5, zi0, zi1, zi2, zi3, zi4, zn6, zn7, zn8, zn9, envMs, p0, p4, p5, p45, p46, p47, hj, hlt, hmf, hw, hat, forall_eq'])
      refine ⟨n - 1, by omega, j + 1, by simp [lk, p0], by simp [lk, p4, encTy], by simp [lk, p5, encTy], by simp [lk, p45], by simp [lk, p46], by simp [lk], ?_, by (try dsimp only); exact Av.up (Av.up (Av.up (Av.up hav rfl) rfl) rfl) rfl, by omega, by omega⟩
      rw [hst, he, List.append_nil]
      exact ((((hs.up (q := 88) (by decide)).up (q := 88) (by decide)).up (q := 89) (by decide)).up (q := 89) (by decide))
  · have hlt : ¬ (j : Int) < (y.fields.length : Int) := by omega
    rw [List.take_of_length_le (by omega)] at hs
    (simp -implicitDefEqProofs +contextual (maxSteps := 8000000) only [go_sem, ↓reduceIte, zn0, zn1, zn2, zn3, zn4, reduceCtorEq, zn5, zi0, zi1, zi2, zi3, zi4, zn6, zn7, zn8, zn9, envMs, p0, p4, p5, p45, p46, p47, hj, hlt])
    exact hQ _ ⟨by simp [lk, p0], by simp [lk, p4, encTy], by simp [lk, p5, encTy], hs, hav⟩
theorem msC_vc (h : MsS ta tb x y σ v l (x.fields.flatMap (ms1 ta tb x y) ++ y.fields.flatMap (ms2 x)) s) (hl : l.length ≤ 1000000000000) (ho : OutP σ 0 v (tvT ta) (tvT tb) l)
    (hx : x.fields.length ≤ 2000000) (hy : y.fields.length ≤ 2000000) (hxr : x.rsv.length ≤ 2000000) (hyr : y.rsv.length ≤ 2000000) (hhx : HiOk x.rsv) (hhy : HiOk y.rsv)
    (hQ : ∀ s', SameD dMs s'.σ (addAll σ 0 v (tvT ta) (tvT tb) l (messagesC ta tb x y)) → Q .normal s') : vc envMs msC Q s := by
  obtain ⟨p0, p4, p5, hs, hav⟩ := h
  simp only [encTy] at p4 p5
  have hnx : g_evolve_numbers [.slice (x.rsv.map encRng)] = some (encRs (numsF x.rsv)) := (g_evolve_numbers_is x.rsv).trans (if_pos ⟨hhx, hxr⟩)
  have hny : g_evolve_numbers [.slice (y.rsv.map encRng)] = some (encRs (numsF y.rsv)) := (g_evolve_numbers_is y.rsv).trans (if_pos ⟨hhy, hyr⟩)
  have lx := numsF_len x.rsv
  have ly := numsF_len y.rsv
  have heq := (g_slices_Equal_api_Range_api_Range_is (numsF x.rsv) (numsF y.rsv)).trans (if_pos ⟨by omega, by omega⟩)
  have hwi := (g_evolve_within_is (numsF x.rsv) (numsF y.rsv)).trans (if_pos ⟨by omega, by omega⟩)
  simp only [encRs] at hnx hny heq hwi
  have hlen := flatMap_len3 (ms2_len x) y.fields
  have hlen1 := flatMap_len3 (ms1_len ta tb x y) x.fields
  have hsz : ((l ++ (x.fields.flatMap (ms1 ta tb x y) ++ y.fields.flatMap (ms2 x))).length + 1) * 40 ≤ 140737488355328 := by rw [List.length_append, List.length_append]; omega
  simp only [msC, A_evolve_differ_messages, sq1, sq2]
  cases hb : eqR (numsF x.rsv) (numsF y.rsv) with
  | true =>
    rw [hb] at heq
    have he : messagesC ta tb x y = x.fields.flatMap (ms1 ta tb x y) ++ y.fields.flatMap (ms2 x) := by simp [messagesC, ms3, hb]
    (simp -implicitDefEqProofs +contextual (maxSteps := 8000000) only [go_sem, ↓reduceIte, zn0, zn1, zn2, zn3, zn4, reduceCtorEq, zn5, zi0, zi1, zi2, zi3, zi4, zn6, zn7, zn8, zn9, envMs, p0, p4, p5, hnx, hny, heq])
    refine hQ _ ?_
    rw [he]
    exact hs
  | false =>
    rw [hb] at heq
    have he : messagesC ta tb x y = (x.fields.flatMap (ms1 ta tb x y) ++ y.fields.flatMap (ms2 x)) ++ [⟨clsN (withinB (numsF x.rsv) (numsF y.rsv)), 10, x.name, 0⟩] := by simp [messagesC, ms3, hb]
    (simp -implicitDefEqProofs +contextual (maxSteps := 8000000) only [go_sem, ↓reduceIte, zn0, zn1, zn2, zn3, zn4, reduceCtorEq, zn5, zi0, zi1, zi2, zi3, zi4, zn6, zn7, zn8, zn9, envMs, p0, p4, p5, hnx, hny, heq, hwi, g_evolve_class])
    refine vcExD_mk (.tup []) (addAll _ 0 v (tvT ta) (tvT tb) (l ++ (x.fields.flatMap (ms1 ta tb x y) ++ y.fields.flatMap (ms2 x))) [⟨clsN (withinB (numsF x.rsv) (numsF y.rsv)), 10, x.name, 0⟩]) (add_gc ⟨clsN (withinB (numsF x.rsv) (numsF y.rsv)), 10, x.name, 0⟩ (by decide) (hs.out (by decide) (by decide) (addAll_out _ (by decide) ho)) hsz) ?_
    (simp -implicitDefEqProofs +contextual (maxSteps := 8000000) only [go_sem, ↓reduceIte, zn0, zn1, zn2, zn3, zn4, reduceCtorEq, zn5, zi0, zi1, zi2, zi3, zi4, zn6, zn7, zn8, zn9, envMs])
    refine hQ _ ?_
    rw [he, ← addAll_addAll _ _ (by decide) ho]
    dsimp only
    exact SameD.add hs (by decide)
end
structure MOk (ta tb : List Ty) (x y : Ty) : Prop where
  rx : Rising x.fields
  ry : Rising y.fields
  lx : x.fields.length ≤ 2000000
  ly : y.fields.length ≤ 2000000
  fx : FOk ta x
  fy : FOk tb y
  sx : x.rsv.length ≤ 2000000
  sy : y.rsv.length ≤ 2000000
  hx : HiOk x.rsv
  hy : HiOk y.rsv
theorem messages_gc (ta tb : List Ty) (x y : Ty) (σ : Slots) (v : Nat) (l : List Chg) (hl : l.length ≤ 1000000000000) (ho : OutP σ 0 v (tvT ta) (tvT tb) l) (h82 : lk σ 82 = none) (hav : Av σ) (hm : MOk ta tb x y) :
    GC Tryd.prog i_evolve_differ_messages [.loc 0 v 0, .iv (encTy x), .iv (encTy y)] σ (fun r σ' => r = .tup [] ∧ SameD dMs σ' (addAll σ 0 v (tvT ta) (tvT tb) l (messagesC ta tb x y))) := by
  refine GC.vc envMs_ok F_evolve_differ_messages T_evolve_differ_messages L_evolve_differ_messages ?_
  rw [show A_evolve_differ_messages.code = .seq (sq1 A_evolve_differ_messages.code) (.seq msA (.seq msB msC)) from rfl]
  simp only [A_evolve_differ_messages, sq1, sq2, args0, zl0, zl1, zl2, zl3, zn1]
  (simp -implicitDefEqProofs +contextual (maxSteps := 8000000) only [go_sem, ↓reduceIte, zn0, zn1, zn2, zn3, zn4, reduceCtorEq, zn5, zi0, zi1, zi2, zi3, zi4, zn6, zn7, zn8, zn9, envMs, encTy])
  refine msA_vc ta tb x y σ v l _ _ ⟨by simp [lk], by simp [lk, encTy], by simp [lk, encTy], fun q hq => rfl, hav⟩ hl ho h82 hm.rx hm.ry hm.lx hm.ly hm.fx hm.fy ?_
  intro s' h
  simp only [thenC_normal, vc_seq]
  refine msB_vc ta tb x y σ v l _ _ h hl ho hm.rx hm.lx hm.ly ?_
  intro s' h
  simp only [thenC_normal, vc_seq]
  refine msC_vc ta tb x y σ v l _ _ h hl ho hm.lx hm.ly hm.sx hm.sy hm.hx hm.hy ?_
  intro s' h
  simp only [endsGC_normal]
  exact ⟨rfl, h⟩
theorem messages_gcD (ta tb : List Ty) (x y : Ty) (σ : Slots) (v : Nat) (l : List Chg) (hl : l.length ≤ 1000000000000) (ho : OutP σ 0 v (tvT ta) (tvT tb) l) (hd : ∀ q, dV q = true → q ≤ 89 → lk σ q = none) (hav : Av σ) (hm : MOk ta tb x y) :
    GC Tryd.prog i_evolve_differ_messages [.loc 0 v 0, .iv (encTy x), .iv (encTy y)] σ (fun r σ' => r = .tup [] ∧ σ' = addAll σ 0 v (tvT ta) (tvT tb) l (messagesC ta tb x y)) := by
  have hd2 : ∀ q, dMs q = true → lk σ q = none := fun q hq => hd q (dMs_dV q hq) (by simp only [dMs, decide_eq_true_eq] at hq; omega)
  exact GC.drop dMs (.tup []) _ rfl hd2 (fun r σ' h => ⟨h.1, fun q => addAll_drop hd2 (by decide) (by decide) h.2 q⟩) (addAll_av (by decide) (hav.to dMs_dV) rfl rfl) (messages_gc ta tb x y σ v l hl ho (hd 82 (by decide) (by decide)) hav hm)
def UniqN (t : List Ty) : Prop := ∀ (i : Nat) (x : Ty), t[i]? = some x → ∀ y ∈ t.take i, y.name ≠ x.name
theorem avMap (t : List Ty) : avI dV (.map .str (encAhead t)) = true := by
  simp only [avI, encAhead, List.all_eq_true]
  intro c hc
  obtain ⟨x, _, rfl⟩ := List.mem_map.1 hc
  rfl
def dBn (q : Nat) : Bool := decide (q = 91)
theorem dBn_dV : ∀ q, dBn q = true → dV q = true := by intro q; simp only [dBn, dV, decide_eq_true_eq]; omega
def BnI (t : List Ty) (σ : Slots) (n : Nat) (st : St) : Prop := ∃ j : Nat, lk st.ρ 3 = some (.mp 90 0) ∧ lk st.ρ 8 = some (.iv (.slice (t.map encTy))) ∧ lk st.ρ 9 = some (.iv (.int .i64 (t.length : Int))) ∧ lk st.ρ 10 = some (.iv (.int .i64 (j : Int))) ∧
  lk st.σ 90 = some (0, .map .str (encAhead (t.take j))) ∧ (∀ q, ¬ q = 90 → dBn q = false → lk st.σ q = lk σ q) ∧ j ≤ t.length ∧ t.length < j + n
theorem byName_gc (t : List Ty) (σ : Slots) (hn : UniqN t) (ht : t.length ≤ 2000000) (h : lk σ 90 = none) :
    GC Tryd.prog i_evolve_byName [.iv (encTable t)] σ (fun r σ' => r = .mp 90 0 ∧ SameD dBn σ' (upd σ 90 (0, .map .str (encAhead t)))) := by
  refine GC.vc (EnvOk.noneS (P := Tryd.prog)) F_evolve_byName T_evolve_byName L_evolve_byName ?_
  unfold A_evolve_byName; simp only [args0, zl0, zl1, zl2, zl3, zn1]
  (simp -implicitDefEqProofs +contextual (maxSteps := 8000000) only [go_sem, ↓reduceIte, zn0, zn1, zn2, zn3, zn4, reduceCtorEq, zn5, zi0, zi1, zi2, zi3, zi4, zn6, zn7, zn8, zn9, encTable, h])
  refine vc_loop (BnI t σ) (t.length + 1) ⟨0, by simp [lk, nxt, h], by simp [lk], by simp [lk], by simp [lk], by simp [lk_upd, nxt, h, encAhead], fun q h1 _ => by simp [lk_upd, Ne.symm h1], by omega, by omega⟩ ?_
  rintro n st ⟨j, p3, p8, p9, p10, k1, k2, g1, g2⟩
  by_cases hj : j < t.length
  · obtain ⟨x, hx⟩ : ∃ x, t[j]? = some x := ⟨t[j], by simp [hj]⟩
    have hmx := get_map (f := encTy) hx
    simp only [encTy] at hmx
    have hw := wrap1 hj (by omega)
    have hlt : (j : Int) < (t.length : Int) := by omega
    have et : t.take (j + 1) = t.take j ++ [x] := by rw [List.take_add_one, hx]; rfl
    have hput := ahead_put (hn j x hx)
    rw [List.length_take, Nat.min_eq_left (by omega), ← et] at hput
    (simp -implicitDefEqProofs +contextual (maxSteps := 8000000) only [go_sem, ↓reduceIte, zn0, zn1, zn2, zn3, zn4, reduceCtorEq, zn5, zi0, zi1, zi2, zi3, zi4, zn6, zn7, zn8, zn9, p3, p8, p9, p10, k1, hj, hlt, hmx, hw, hput, forall_eq'])
    exact ⟨n - 1, by omega, j + 1, by simp [lk, p3], by simp [lk, p8], by simp [lk, p9], by simp [lk], by simp [lk_upd], fun q h1 h2 => by
      have h3 : ¬ q = 91 := fun e => by subst e; revert h2; decide
      simp only [lk_upd, if_neg (Ne.symm h1), if_neg (Ne.symm h3)]; exact k2 q h1 h2, by omega, by omega⟩
  · have hlt : ¬ (j : Int) < (t.length : Int) := by omega
    rw [List.take_of_length_le (by omega)] at k1
    (simp -implicitDefEqProofs +contextual (maxSteps := 8000000) only [go_sem, ↓reduceIte, zn0, zn1, zn2, zn3, zn4, reduceCtorEq, zn5, zi0, zi1, zi2, zi3, zi4, zn6, zn7, zn8, zn9, p3, p8, p9, p10, k1, hj, hlt])
    intro q hq
    rw [lk_upd]
    by_cases e : 90 = q
    · subst e; simpa using k1
    · rw [if_neg e]; exact k2 q (Ne.symm e) hq
theorem byName_gcD (t : List Ty) (σ : Slots) (hn : UniqN t) (ht : t.length ≤ 2000000) (h : lk σ 90 = none) (h2 : lk σ 91 = none) (hav : Av σ) :
    GC Tryd.prog i_evolve_byName [.iv (encTable t)] σ (fun r σ' => r = .mp 90 0 ∧ σ' = upd σ 90 (0, .map .str (encAhead t))) := by
  refine GC.drop dBn (.mp 90 0) _ rfl (fun q hq => by simp only [dBn, decide_eq_true_eq] at hq; subst hq; exact h2) (fun r σ' h => ⟨h.1, fun q => ?_⟩) ((hav.up (avMap t)).to dBn_dV) (byName_gc t σ hn ht h)
  cases hq : dBn q with
  | true =>
    simp only [dBn, decide_eq_true_eq] at hq; subst hq
    rw [lk_upd, if_neg (by decide), h2]; rfl
  | false => rw [h.2 q hq]; rfl
def dBn_b (q : Nat) : Bool := decide (q = 93)
theorem dBn_b_dV : ∀ q, dBn_b q = true → dV q = true := by intro q; simp only [dBn_b, dV, decide_eq_true_eq]; omega
def BnI_b (t : List Ty) (σ : Slots) (n : Nat) (st : St) : Prop := ∃ j : Nat, lk st.ρ 3 = some (.mp 92 0) ∧ lk st.ρ 8 = some (.iv (.slice (t.map encTy))) ∧ lk st.ρ 9 = some (.iv (.int .i64 (t.length : Int))) ∧ lk st.ρ 10 = some (.iv (.int .i64 (j : Int))) ∧
  lk st.σ 92 = some (0, .map .str (encAhead (t.take j))) ∧ (∀ q, ¬ q = 92 → dBn_b q = false → lk st.σ q = lk σ q) ∧ j ≤ t.length ∧ t.length < j + n
theorem byName_b_gc (t : List Ty) (σ : Slots) (hn : UniqN t) (ht : t.length ≤ 2000000) (h : lk σ 92 = none) :
    GC Tryd.prog i_evolve_byName [.iv (encTable t)] σ (fun r σ' => r = .mp 92 0 ∧ SameD dBn_b σ' (upd σ 92 (0, .map .str (encAhead t)))) := by
  refine GC.vc (EnvOk.noneS (P := Tryd.prog)) F_evolve_byName_b T_evolve_byName_b L_evolve_byName_b ?_
  unfold A_evolve_byName_b; simp only [args0, zl0, zl1, zl2, zl3, zn1]
  (simp -implicitDefEqProofs +contextual (maxSteps := 8000000) only [go_sem, ↓reduceIte, zn0, zn1, zn2, zn3, zn4, reduceCtorEq, zn5, zi0, zi1, zi2, zi3, zi4, zn6, zn7, zn8, zn9, encTable, h])
  refine vc_loop (BnI_b t σ) (t.length + 1) ⟨0, by simp [lk, nxt, h], by simp [lk], by simp [lk], by simp [lk], by simp [lk_upd, nxt, h, encAhead], fun q h1 _ => by simp [lk_upd, Ne.symm h1], by omega, by omega⟩ ?_
  rintro n st ⟨j, p3, p8, p9, p10, k1, k2, g1, g2⟩
  by_cases hj : j < t.length
  · obtain ⟨x, hx⟩ : ∃ x, t[j]? = some x := ⟨t[j], by simp [hj]⟩
    have hmx := get_map (f := encTy) hx
    simp only [encTy] at hmx
    have hw := wrap1 hj (by omega)
    have hlt : (j : Int) < (t.length : Int) := by omega
    have et : t.take (j + 1) = t.take j ++ [x] := by rw [List.take_add_one, hx]; rfl
    have hput := ahead_put (hn j x hx)
    rw [List.length_take, Nat.min_eq_left (by omega), ← et] at hput
    (simp -implicitDefEqProofs +contextual (maxSteps := 8000000) only [go_sem, ↓reduceIte, zn0, zn1, zn2, zn3, zn4, reduceCtorEq, zn5, zi0, zi1, zi2, zi3, zi4, zn6, zn7, zn8, zn9, p3, p8, p9, p10, k1, hj, hlt, hmx, hw, hput, forall_eq'])
    exact ⟨n - 1, by omega, j + 1, by simp [lk, p3], by simp [lk, p8], by simp [lk, p9], by simp [lk], by simp [lk_upd], fun q h1 h2 => by
      have h3 : ¬ q = 93 := fun e => by subst e; revert h2; decide
      simp only [lk_upd, if_neg (Ne.symm h1), if_neg (Ne.symm h3)]; exact k2 q h1 h2, by omega, by omega⟩
  · have hlt : ¬ (j : Int) < (t.length : Int) := by omega
    rw [List.take_of_length_le (by omega)] at k1
    (simp -implicitDefEqProofs +contextual (maxSteps := 8000000) only [go_sem, ↓reduceIte, zn0, zn1, zn2, zn3, zn4, reduceCtorEq, zn5, zi0, zi1, zi2, zi3, zi4, zn6, zn7, zn8, zn9, p3, p8, p9, p10, k1, hj, hlt])
    intro q hq
    rw [lk_upd]
    by_cases e : 92 = q
    · subst e; simpa using k1
    · rw [if_neg e]; exact k2 q (Ne.symm e) hq
theorem byName_b_gcD (t : List Ty) (σ : Slots) (hn : UniqN t) (ht : t.length ≤ 2000000) (h : lk σ 92 = none) (h2 : lk σ 93 = none) (hav : Av σ) :
    GC Tryd.prog i_evolve_byName [.iv (encTable t)] σ (fun r σ' => r = .mp 92 0 ∧ σ' = upd σ 92 (0, .map .str (encAhead t))) := by
  refine GC.drop dBn_b (.mp 92 0) _ rfl (fun q hq => by simp only [dBn_b, decide_eq_true_eq] at hq; subst hq; exact h2) (fun r σ' h => ⟨h.1, fun q => ?_⟩) ((hav.up (avMap t)).to dBn_b_dV) (byName_b_gc t σ hn ht h)
  cases hq : dBn_b q with
  | true =>
    simp only [dBn_b, decide_eq_true_eq] at hq; subst hq
    rw [lk_upd, if_neg (by decide), h2]; rfl
  | false => rw [h.2 q hq]; rfl
def fN (t : List Ty) (h : ByteArray) : Option Ty := t.find? fun y => decide (y.name = h)
noncomputable def df1 (a b : List Ty) (x : Ty) : List Chg := match fN b x.name with
  | none => [⟨4, 1, x.name, 0⟩]
  | some y => if x.enum = y.enum then (if x.enum = true then enumsC x y else messagesC a b x y) else [⟨4, 2, x.name, 0⟩]
def df2 (a : List Ty) (y : Ty) : List Chg := match fN a y.name with
  | none => [⟨2, 11, y.name, 0⟩]
  | some _ => []
noncomputable def diffC (a b : List Ty) : List Chg := a.flatMap (df1 a b) ++ b.flatMap (df2 a)
structure GP (a b : List Ty) : Prop where
  ua : UniqN a
  ub : UniqN b
  la : a.length ≤ 128
  lb : b.length ≤ 128
  sa : ∀ x ∈ a, x.syms.length ≤ 2000000 ∧ x.fields.length ≤ 2000000
  sb : ∀ y ∈ b, y.syms.length ≤ 2000000 ∧ y.fields.length ≤ 2000000
  mo : ∀ x ∈ a, ∀ y ∈ b, x.enum = false → y.enum = false → MOk a b x y
theorem fN_mem {t : List Ty} {h : ByteArray} {y : Ty} (e : fN t h = some y) : y ∈ t := List.mem_of_find?_eq_some e
theorem enumsC_len {x y : Ty} (hx : x.syms.length ≤ 2000000) (hy : y.syms.length ≤ 2000000) : (enumsC x y).length ≤ 100000000 := by
  have h1 := flatMap_len (en1_len x y) x.syms
  have h2 := flatMap_len (en2_len x y) y.syms
  simp only [enumsC, List.length_append]; omega
theorem messagesC_len {a b : List Ty} {x y : Ty} (hx : x.fields.length ≤ 2000000) (hy : y.fields.length ≤ 2000000) : (messagesC a b x y).length ≤ 100000000 := by
  have h1 := flatMap_len3 (ms1_len a b x y) x.fields
  have h2 := flatMap_len3 (ms2_len x) y.fields
  have h3 := ms3_len x y
  simp only [messagesC, List.length_append]; omega
theorem df1_len {a b : List Ty} (h : GP a b) {x : Ty} (hx : x ∈ a) : (df1 a b x).length ≤ 100000000 := by
  unfold df1
  split
  · simp
  · rename_i y hy
    have hyb := fN_mem hy
    split
    · split
      · exact enumsC_len (h.sa x hx).1 (h.sb y hyb).1
      · exact messagesC_len (h.sa x hx).2 (h.sb y hyb).2
    · simp
theorem df2_len (a : List Ty) (y : Ty) : (df2 a y).length ≤ 100000000 := by unfold df2; split <;> simp
theorem flatMap_lenK {α : Type} {g : α → List Chg} : ∀ l : List α, (∀ s ∈ l, (g s).length ≤ 100000000) → (l.flatMap g).length ≤ 100000000 * l.length
  | [], _ => by simp
  | s :: l, hg => by
    have h1 := hg s (List.mem_cons_self ..)
    have h2 := flatMap_lenK l fun s hs => hg s (List.mem_cons_of_mem _ hs)
    simp only [List.flatMap_cons, List.length_append, List.length_cons]; omega
theorem callOk53 : callOk Tryd.prog 53 = true := by kernel_rfl
theorem callOk55 : callOk Tryd.prog 55 = true := by kernel_rfl
theorem callOk56 : callOk Tryd.prog 56 = true := by kernel_rfl
noncomputable def envDf : Env := { split := true, fc := [(i_table_Good, g_table_Good)], gr := [(54, fun vs σ Q => GC Tryd.prog 54 vs σ Q), (55, fun vs σ Q => GC Tryd.prog 55 vs σ Q), (56, fun vs σ Q => GC Tryd.prog 56 vs σ Q), (53, fun vs σ Q => GC Tryd.prog 53 vs σ Q)] }
theorem envDf_ok : EnvOk Tryd.prog envDf := ((((EnvOk.noneS.addR callOk53).addR callOk56).addR callOk55).addR callOk54).addF g_table_Good_ok
def dfL1 : ACode := sq1 (sq2 (sq2 (sq2 (sq2 A_evolve_Diff.code))))
def dfL2 : ACode := sq1 (sq2 (sq2 (sq2 (sq2 (sq2 A_evolve_Diff.code)))))
def dfL3 : ACode := sq2 (sq2 (sq2 (sq2 (sq2 (sq2 A_evolve_Diff.code)))))
def dDf (q : Nat) : Bool := decide (1 ≤ q ∧ q ≤ 4)
structure TauOk (a b : List Ty) (τ : Slots) : Prop where
  out : OutP τ 0 0 (tvT a) (tvT b) []
  m90 : lk τ 90 = some (0, .map .str (encAhead a))
  m92 : lk τ 92 = some (0, .map .str (encAhead b))
  hd : ∀ q, dV q = true → q ≤ 89 → lk τ q = none
structure DfS (a b : List Ty) (τ : Slots) (cs : List Chg) (s : St) : Prop where
  p2 : lk s.ρ 2 = some (.iv (.ref (encTable a)))
  p3 : lk s.ρ 3 = some (.iv (.ref (encTable b)))
  p7 : lk s.ρ 7 = some (.loc 0 0 0)
  p8 : lk s.ρ 8 = some (.mp 90 0)
  p9 : lk s.ρ 9 = some (.mp 92 0)
  same : SameD dDf s.σ (addAll τ 0 0 (tvT a) (tvT b) [] cs)
  av : Av s.σ
section
variable {a b : List Ty} {τ : Slots}
theorem DfS.at {cs : List Chg} {s : St} (h : DfS a b τ cs s) {q : Nat} (h1 : dDf q = false) (h2 : ¬ q = 80) (h3 : ¬ q = 0) : lk s.σ q = lk τ q := by
  rw [h.same q h1, addAll_lk h2 h3]
theorem DfS.out {cs : List Chg} {s : St} (h : DfS a b τ cs s) (hτ : TauOk a b τ) : OutP s.σ 0 0 (tvT a) (tvT b) cs := by
  have := h.same.out (by decide) (by decide) (addAll_out cs (by decide) hτ.out)
  simpa using this
def DfI (a b : List Ty) (τ : Slots) (n : Nat) (st : St) : Prop := ∃ j : Nat, DfS a b τ ((a.take j).flatMap (df1 a b)) st ∧
  lk st.ρ 38 = some (.iv (.slice (a.map encTy))) ∧ lk st.ρ 39 = some (.iv (.int .i64 (a.length : Int))) ∧ lk st.ρ 40 = some (.iv (.int .i64 (j : Int))) ∧ j ≤ a.length ∧ a.length < j + n
def DfJ (a b : List Ty) (τ : Slots) (n : Nat) (st : St) : Prop := ∃ j : Nat, DfS a b τ (a.flatMap (df1 a b) ++ (b.take j).flatMap (df2 a)) st ∧
  lk st.ρ 93 = some (.iv (.slice (b.map encTy))) ∧ lk st.ρ 94 = some (.iv (.int .i64 (b.length : Int))) ∧ lk st.ρ 95 = some (.iv (.int .i64 (j : Int))) ∧ j ≤ b.length ∧ b.length < j + n
theorem dfL1_vc {Q : AEx → St → Prop} {s : St} (h : DfS a b τ [] s) (hτ : TauOk a b τ) (hg : GP a b)
    (hQ : ∀ s', DfS a b τ (a.flatMap (df1 a b)) s' → Q .normal s') : vc envDf dfL1 Q s := by
  obtain ⟨p2, p3, p7, p8, p9, hs, hav⟩ := h
  simp only [encTable] at p2 p3
  simp only [dfL1, A_evolve_Diff, sq1, sq2]
  have la := hg.la
  (simp -implicitDefEqProofs +contextual (maxSteps := 8000000) only [go_sem, ↓reduceIte, zn0, zn1, zn2, zn3, zn4, reduceCtorEq, zn5, zi0, zi1, zi2, zi3, zi4, zn6, zn7, zn8, zn9, envDf, p2, p3])
  refine vc_loop (DfI a b τ) (a.length + 1) ⟨0, ⟨by simp [lk, p2, encTable], by simp [lk, p3, encTable], by simp [lk, p7], by simp [lk, p8], by simp [lk, p9], by simpa using hs, by simpa using hav⟩, by simp [lk], by simp [lk], by simp [lk], by omega, by omega⟩ ?_
  clear p2 p3 p7 p8 p9 hs hav s
  rintro n st ⟨j, hS, p38, p39, p40, g1, g2⟩
  have p2 := hS.p2; have p3 := hS.p3; have p7 := hS.p7; have p8 := hS.p8; have p9 := hS.p9; have hs := hS.same; have hav := hS.av
  simp only [encTable] at p2 p3
  have k92 := (hS.at (q := 92) (by decide) (by decide) (by decide)).trans hτ.m92
  have ho := hS.out hτ
  by_cases hj : j < a.length
  · obtain ⟨x, hx⟩ : ∃ x, a[j]? = some x := ⟨a[j], by simp [hj]⟩
    have hmx := get_map (f := encTy) hx
    simp only [encTy] at hmx
    have hw := wrap1 hj (by omega)
    have hlt : (j : Int) < (a.length : Int) := by omega
    have et : a.take (j + 1) = a.take j ++ [x] := by rw [List.take_add_one, hx]; rfl
    have hst : (a.take (j + 1)).flatMap (df1 a b) = (a.take j).flatMap (df1 a b) ++ df1 a b x := by rw [et, List.flatMap_append]; simp
    have hlen := flatMap_lenK (g := df1 a b) (a.take j) fun s hs => df1_len hg (List.mem_of_mem_take hs)
    rw [List.length_take] at hlen
    have hxm := List.mem_of_getElem? hx
    generalize hL : (a.take j).flatMap (df1 a b) = L at hs ho hst hlen
    have hsz : (L.length + 1) * 40 ≤ 140737488355328 := by omega
    cases hf : fN b x.name with
    | none =>
      have hmf := ahead_none hf
      have he : df1 a b x = [⟨4, 1, x.name, 0⟩] := by simp [df1, hf]
      (simp -implicitDefEqProofs +contextual (maxSteps := 8000000) only [go_sem, ↓reduceIte, zn0, zn1, zn2, zn3, zn4, reduceCtorEq, zn5, zi0, zi1, zi2, zi3, zi4, zn6, zn7, zn8, zn9, envDf, p2, p3, p7, p8, p9, p38, p39, p40, hj, hlt, hmx, k92, hmf, lookOf, entsOf, keyKind, forall_eq'])
      refine vcExD_mk (.tup []) (addAll _ 0 0 (tvT a) (tvT b) L [⟨4, 1, x.name, 0⟩]) (add_gc ⟨4, 1, x.name, 0⟩ (by decide) (((hs.up (q := 1) (by decide)).up (q := 1) (by decide)).out (by decide) (by decide) (addAll_out _ (by decide) hτ.out)) hsz) ?_
      (simp -implicitDefEqProofs +contextual (maxSteps := 8000000) only [go_sem, ↓reduceIte, zn0, zn1, zn2, zn3, zn4, reduceCtorEq, zn5, zi0, zi1, zi2, zi3, zi4, zn6, zn7, zn8, zn9, envDf, p2, p3, p7, p8, p9, p38, p39, p40, hw])
      refine ⟨n - 1, by omega, j + 1, ⟨by simp [lk, p2, encTable], by simp [lk, p3, encTable], by simp [lk, p7], by simp [lk, p8], by simp [lk, p9], ?_, by (try dsimp only); refine Av.add ?_; exact Av.up (Av.up hav rfl) rfl⟩, by simp [lk, p38], by simp [lk, p39], by simp [lk], by omega, by omega⟩
      rw [hst, he, ← addAll_addAll _ _ (by decide) hτ.out]
      (try dsimp only)
      exact SameD.add ((hs.up (q := 1) (by decide)).up (q := 1) (by decide)) (by decide)
    | some y =>
      obtain ⟨j2, q2, hmf, hy⟩ := ahead_some hf
      have hym := fN_mem hf
      have hmy := get_map (f := encTy) hy
      have hj2 := (List.getElem?_eq_some_iff.1 hy).1
      have hlt2 : (j2 : Int) < (b.length : Int) := by omega
      simp only [encTy] at hmy
      have hno : ∀ (q : Nat) (x1 x2 : Nat × Item), dV q = true → q ≤ 89 → lk (upd (upd st.σ 1 x1) 1 x2) q = none := by
        intro q x1 x2 hq h89
        have h82 : 82 ≤ q := by simp only [dV, decide_eq_true_eq] at hq; omega
        rw [lk_upd, if_neg (by omega), lk_upd, if_neg (by omega), hS.at (by simp only [dDf, decide_eq_false_iff_not]; omega) (by omega) (by omega)]
        exact hτ.hd q hq h89
      have hsx := hg.sa x hxm
      have hsy := hg.sb y hym
      have hmo := hg.mo x hxm y hym
      obtain ⟨xn, xe, xf, xo, xs, xr⟩ := x
      obtain ⟨yn, ye, yf, yo, ys, yr⟩ := y
      dsimp only at hmx hmy hmf hf hsx hsy hmo
      cases xe <;> cases ye
      · have he : df1 a b ⟨xn, false, xf, xo, xs, xr⟩ = messagesC a b ⟨xn, false, xf, xo, xs, xr⟩ ⟨yn, false, yf, yo, ys, yr⟩ := by simp [df1, hf]
        (simp -implicitDefEqProofs +contextual (maxSteps := 8000000) only [go_sem, ↓reduceIte, zn0, zn1, zn2, zn3, zn4, reduceCtorEq, zn5, zi0, zi1, zi2, zi3, zi4, zn6, zn7, zn8, zn9, envDf, p2, p3, p7, p8, p9, p38, p39, p40, hj, hlt, hlt2, hj2, hmx, hmy, k92, hmf, lookOf, entsOf, keyKind, forall_eq'])
        refine vcExD_mk (.tup []) (addAll _ 0 0 (tvT a) (tvT b) L (messagesC a b ⟨xn, false, xf, xo, xs, xr⟩ ⟨yn, false, yf, yo, ys, yr⟩)) (messages_gcD a b ⟨xn, false, xf, xo, xs, xr⟩ ⟨yn, false, yf, yo, ys, yr⟩ _ 0 L (by omega) (((hs.up (q := 1) (by decide)).up (q := 1) (by decide)).out (by decide) (by decide) (addAll_out _ (by decide) hτ.out)) (fun q h1 h2 => hno q _ _ h1 h2) (Av.up (Av.up hav rfl) rfl) (hmo rfl rfl)) ?_
        (simp -implicitDefEqProofs +contextual (maxSteps := 8000000) only [go_sem, ↓reduceIte, zn0, zn1, zn2, zn3, zn4, reduceCtorEq, zn5, zi0, zi1, zi2, zi3, zi4, zn6, zn7, zn8, zn9, envDf, p2, p3, p7, p8, p9, p38, p39, p40, hw])
        refine ⟨n - 1, by omega, j + 1, ⟨by simp [lk, p2, encTable], by simp [lk, p3, encTable], by simp [lk, p7], by simp [lk, p8], by simp [lk, p9], ?_, by (try dsimp only); refine Av.add ?_; exact Av.up (Av.up hav rfl) rfl⟩, by simp [lk, p38], by simp [lk, p39], by simp [lk], by omega, by omega⟩
        rw [hst, he, ← addAll_addAll _ _ (by decide) hτ.out]
        (try dsimp only)
        exact SameD.add ((hs.up (q := 1) (by decide)).up (q := 1) (by decide)) (by decide)
      · have he : df1 a b ⟨xn, false, xf, xo, xs, xr⟩ = [⟨4, 2, xn, 0⟩] := by simp [df1, hf]
        (simp -implicitDefEqProofs +contextual (maxSteps := 8000000) only [go_sem, ↓reduceIte, zn0, zn1, zn2, zn3, zn4, reduceCtorEq, zn5, zi0, zi1, zi2, zi3, zi4, zn6, zn7, zn8, zn9, envDf, p2, p3, p7, p8, p9, p38, p39, p40, hj, hlt, hlt2, hj2, hmx, hmy, k92, hmf, lookOf, entsOf, keyKind, forall_eq'])
        refine vcExD_mk (.tup []) (addAll _ 0 0 (tvT a) (tvT b) L [⟨4, 2, xn, 0⟩]) (add_gc ⟨4, 2, xn, 0⟩ (by decide) (((hs.up (q := 1) (by decide)).up (q := 1) (by decide)).out (by decide) (by decide) (addAll_out _ (by decide) hτ.out)) hsz) ?_
        (simp -implicitDefEqProofs +contextual (maxSteps := 8000000) only [go_sem, ↓reduceIte, zn0, zn1, zn2, zn3, zn4, reduceCtorEq, zn5, zi0, zi1, zi2, zi3, zi4, zn6, zn7, zn8, zn9, envDf, p2, p3, p7, p8, p9, p38, p39, p40, hw])
        refine ⟨n - 1, by omega, j + 1, ⟨by simp [lk, p2, encTable], by simp [lk, p3, encTable], by simp [lk, p7], by simp [lk, p8], by simp [lk, p9], ?_, by (try dsimp only); refine Av.add ?_; exact Av.up (Av.up hav rfl) rfl⟩, by simp [lk, p38], by simp [lk, p39], by simp [lk], by omega, by omega⟩
        rw [hst, he, ← addAll_addAll _ _ (by decide) hτ.out]
        (try dsimp only)
        exact SameD.add ((hs.up (q := 1) (by decide)).up (q := 1) (by decide)) (by decide)
      · have he : df1 a b ⟨xn, true, xf, xo, xs, xr⟩ = [⟨4, 2, xn, 0⟩] := by simp [df1, hf]
        (simp -implicitDefEqProofs +contextual (maxSteps := 8000000) only [go_sem, ↓reduceIte, zn0, zn1, zn2, zn3, zn4, reduceCtorEq, zn5, zi0, zi1, zi2, zi3, zi4, zn6, zn7, zn8, zn9, envDf, p2, p3, p7, p8, p9, p38, p39, p40, hj, hlt, hlt2, hj2, hmx, hmy, k92, hmf, lookOf, entsOf, keyKind, forall_eq'])
        refine vcExD_mk (.tup []) (addAll _ 0 0 (tvT a) (tvT b) L [⟨4, 2, xn, 0⟩]) (add_gc ⟨4, 2, xn, 0⟩ (by decide) (((hs.up (q := 1) (by decide)).up (q := 1) (by decide)).out (by decide) (by decide) (addAll_out _ (by decide) hτ.out)) hsz) ?_
        (simp -implicitDefEqProofs +contextual (maxSteps := 8000000) only [go_sem, ↓reduceIte, zn0, zn1, zn2, zn3, zn4, reduceCtorEq, zn5, zi0, zi1, zi2, zi3, zi4, zn6, zn7, zn8, zn9, envDf, p2, p3, p7, p8, p9, p38, p39, p40, hw])
        refine ⟨n - 1, by omega, j + 1, ⟨by simp [lk, p2, encTable], by simp [lk, p3, encTable], by simp [lk, p7], by simp [lk, p8], by simp [lk, p9], ?_, by (try dsimp only); refine Av.add ?_; exact Av.up (Av.up hav rfl) rfl⟩, by simp [lk, p38], by simp [lk, p39], by simp [lk], by omega, by omega⟩
        rw [hst, he, ← addAll_addAll _ _ (by decide) hτ.out]
        (try dsimp only)
        exact SameD.add ((hs.up (q := 1) (by decide)).up (q := 1) (by decide)) (by decide)
      · have he : df1 a b ⟨xn, true, xf, xo, xs, xr⟩ = enumsC ⟨xn, true, xf, xo, xs, xr⟩ ⟨yn, true, yf, yo, ys, yr⟩ := by simp [df1, hf]
        (simp -implicitDefEqProofs +contextual (maxSteps := 8000000) only [go_sem, ↓reduceIte, zn0, zn1, zn2, zn3, zn4, reduceCtorEq, zn5, zi0, zi1, zi2, zi3, zi4, zn6, zn7, zn8, zn9, envDf, p2, p3, p7, p8, p9, p38, p39, p40, hj, hlt, hlt2, hj2, hmx, hmy, k92, hmf, lookOf, entsOf, keyKind, forall_eq'])
        refine vcExD_mk (.tup []) (addAll _ 0 0 (tvT a) (tvT b) L (enumsC ⟨xn, true, xf, xo, xs, xr⟩ ⟨yn, true, yf, yo, ys, yr⟩)) (enums_gcD ⟨xn, true, xf, xo, xs, xr⟩ ⟨yn, true, yf, yo, ys, yr⟩ _ 0 0 (tvT a) (tvT b) L (by decide) (by decide) (((hs.up (q := 1) (by decide)).up (q := 1) (by decide)).out (by decide) (by decide) (addAll_out _ (by decide) hτ.out)) hsx.1 hsy.1 (by omega) (fun q h1 => hno q _ _ (dEn_dV q h1) (by simp only [dEn, decide_eq_true_eq] at h1; omega)) (Av.to (Av.up (Av.up hav rfl) rfl) dEn_dV) rfl rfl) ?_
        (simp -implicitDefEqProofs +contextual (maxSteps := 8000000) only [go_sem, ↓reduceIte, zn0, zn1, zn2, zn3, zn4, reduceCtorEq, zn5, zi0, zi1, zi2, zi3, zi4, zn6, zn7, zn8, zn9, envDf, p2, p3, p7, p8, p9, p38, p39, p40, hw])
        refine ⟨n - 1, by omega, j + 1, ⟨by simp [lk, p2, encTable], by simp [lk, p3, encTable], by simp [lk, p7], by simp [lk, p8], by simp [lk, p9], ?_, by (try dsimp only); refine Av.add ?_; exact Av.up (Av.up hav rfl) rfl⟩, by simp [lk, p38], by simp [lk, p39], by simp [lk], by omega, by omega⟩
        rw [hst, he, ← addAll_addAll _ _ (by decide) hτ.out]
        (try dsimp only)
        exact SameD.add ((hs.up (q := 1) (by decide)).up (q := 1) (by decide)) (by decide)
  · have hlt : ¬ (j : Int) < (a.length : Int) := by omega
    rw [List.take_of_length_le (by omega)] at hS
    (simp -implicitDefEqProofs +contextual (maxSteps := 8000000) only [go_sem, ↓reduceIte, zn0, zn1, zn2, zn3, zn4, reduceCtorEq, zn5, zi0, zi1, zi2, zi3, zi4, zn6, zn7, zn8, zn9, envDf, p2, p3, p38, p39, p40, hj, hlt])
    exact hQ _ ⟨by simp [lk, p2, encTable], by simp [lk, p3, encTable], by simp [lk, p7], by simp [lk, p8], by simp [lk, p9], hS.same, hS.av⟩
end
section
variable {a b : List Ty} {τ : Slots}
theorem dfL2_vc {Q : AEx → St → Prop} {s : St} (h : DfS a b τ (a.flatMap (df1 a b)) s) (hτ : TauOk a b τ) (hg : GP a b)
    (hQ : ∀ s', DfS a b τ (diffC a b) s' → Q .normal s') : vc envDf dfL2 Q s := by
  obtain ⟨p2, p3, p7, p8, p9, hs, hav⟩ := h
  simp only [encTable] at p2 p3
  simp only [dfL2, A_evolve_Diff, sq1, sq2]
  have lb := hg.lb
  have la := hg.la
  (simp -implicitDefEqProofs +contextual (maxSteps := 8000000) only [go_sem, ↓reduceIte, zn0, zn1, zn2, zn3, zn4, reduceCtorEq, zn5, zi0, zi1, zi2, zi3, zi4, zn6, zn7, zn8, zn9, envDf, p2, p3])
  refine vc_loop (DfJ a b τ) (b.length + 1) ⟨0, ⟨by simp [lk, p2, encTable], by simp [lk, p3, encTable], by simp [lk, p7], by simp [lk, p8], by simp [lk, p9], by simpa using hs, by simpa using hav⟩, by simp [lk], by simp [lk], by simp [lk], by omega, by omega⟩ ?_
  clear p2 p3 p7 p8 p9 hs hav s
  rintro n st ⟨j, hS, p93, p94, p95, g1, g2⟩
  have p2 := hS.p2; have p3 := hS.p3; have p7 := hS.p7; have p8 := hS.p8; have p9 := hS.p9; have hs := hS.same; have hav := hS.av
  simp only [encTable] at p2 p3
  have k90 := (hS.at (q := 90) (by decide) (by decide) (by decide)).trans hτ.m90
  have ho := hS.out hτ
  by_cases hj : j < b.length
  · obtain ⟨y, hy⟩ : ∃ y, b[j]? = some y := ⟨b[j], by simp [hj]⟩
    have hmy := get_map (f := encTy) hy
    simp only [encTy] at hmy
    have hw := wrap1 hj (by omega)
    have hlt : (j : Int) < (b.length : Int) := by omega
    have et : b.take (j + 1) = b.take j ++ [y] := by rw [List.take_add_one, hy]; rfl
    have hst : a.flatMap (df1 a b) ++ (b.take (j + 1)).flatMap (df2 a) = (a.flatMap (df1 a b) ++ (b.take j).flatMap (df2 a)) ++ df2 a y := by rw [et, List.flatMap_append]; simp
    have hlen := flatMap_lenK (g := df2 a) (b.take j) fun s hs => df2_len a s
    have hlen1 := flatMap_lenK (g := df1 a b) a fun s hs => df1_len hg hs
    rw [List.length_take] at hlen
    have hsz : ((a.flatMap (df1 a b) ++ (b.take j).flatMap (df2 a)).length + 1) * 40 ≤ 140737488355328 := by rw [List.length_append]; omega
    generalize hL : a.flatMap (df1 a b) ++ (b.take j).flatMap (df2 a) = L at hs ho hst hsz
    cases hf : fN a y.name with
    | none =>
      have hmf := ahead_none hf
      have he : df2 a y = [⟨2, 11, y.name, 0⟩] := by simp [df2, hf]
      (simp -implicitDefEqProofs +contextual (maxSteps := 8000000) only [go_sem, ↓reduceIte, zn0, zn1, zn2, zn3, zn4, reduceCtorEq, zn5, zi0, zi1, zi2, zi3, zi4, zn6, zn7, zn8, zn9, envDf, p2, p3, p7, p8, p9, p93, p94, p95, hj, hlt, hmy, k90, hmf, lookOf, entsOf, keyKind, forall_eq'])
      refine vcExD_mk (.tup []) (addAll _ 0 0 (tvT a) (tvT b) L [⟨2, 11, y.name, 0⟩]) (add_gc ⟨2, 11, y.name, 0⟩ (by decide) (((hs.up (q := 2) (by decide)).up (q := 2) (by decide)).out (by decide) (by decide) (addAll_out _ (by decide) hτ.out)) hsz) ?_
      (simp -implicitDefEqProofs +contextual (maxSteps := 8000000) only [go_sem, ↓reduceIte, zn0, zn1, zn2, zn3, zn4, reduceCtorEq, zn5, zi0, zi1, zi2, zi3, zi4, zn6, zn7, zn8, zn9, envDf, p2, p3, p7, p8, p9, p93, p94, p95, hw])
      refine ⟨n - 1, by omega, j + 1, ⟨by simp [lk, p2, encTable], by simp [lk, p3, encTable], by simp [lk, p7], by simp [lk, p8], by simp [lk, p9], ?_, by (try dsimp only); refine Av.add ?_; exact Av.up (Av.up hav rfl) rfl⟩, by simp [lk, p93], by simp [lk, p94], by simp [lk], by omega, by omega⟩
      rw [hst, he, ← addAll_addAll _ _ (by decide) hτ.out]
      (try dsimp only)
      exact SameD.add ((hs.up (q := 2) (by decide)).up (q := 2) (by decide)) (by decide)
    | some x =>
      obtain ⟨j2, q2, hmf, hx⟩ := ahead_some hf
      have he : df2 a y = [] := by simp [df2, hf]
      (simp -implicitDefEqProofs +contextual (maxSteps := 8000000) only [go_sem, ↓reduceIte, zn0, zn1, zn2, zn3, zn4, reduceCtorEq, zn5, zi0, zi1, zi2, zi3, zi4, zn6, zn7, zn8, zn9, envDf, p2, p3, p7, p8, p9, p93, p94, p95, hj, hlt, hmy, k90, hmf, hw, lookOf, entsOf, keyKind, forall_eq'])
      refine ⟨n - 1, by omega, j + 1, ⟨by simp [lk, p2, encTable], by simp [lk, p3, encTable], by simp [lk, p7], by simp [lk, p8], by simp [lk, p9], ?_, by (try dsimp only); exact Av.up (Av.up hav rfl) rfl⟩, by simp [lk, p93], by simp [lk, p94], by simp [lk], by omega, by omega⟩
      rw [hst, he, List.append_nil]
      (try dsimp only)
      exact ((hs.up (q := 2) (by decide)).up (q := 2) (by decide))
  · have hlt : ¬ (j : Int) < (b.length : Int) := by omega
    rw [List.take_of_length_le (by omega)] at hS
    (simp -implicitDefEqProofs +contextual (maxSteps := 8000000) only [go_sem, ↓reduceIte, zn0, zn1, zn2, zn3, zn4, reduceCtorEq, zn5, zi0, zi1, zi2, zi3, zi4, zn6, zn7, zn8, zn9, envDf, p2, p3, p93, p94, p95, hj, hlt])
    exact hQ _ ⟨by simp [lk, p2, encTable], by simp [lk, p3, encTable], by simp [lk, p7], by simp [lk, p8], by simp [lk, p9], hS.same, hS.av⟩
def worse (w : Int) (c : Chg) : Int := if w < c.cls then c.cls else w
def worstN (l : List Chg) : Int := l.foldl worse 1
theorem worstN_snoc (l : List Chg) (c : Chg) : worstN (l ++ [c]) = worse (worstN l) c := by simp [worstN]
theorem flat_outs (l : List Chg) : (flat (outs l)).length = l.length * 4 := by
  induction l with
  | nil => rfl
  | cons a l ih => simp only [outs, flat, List.map_cons, List.flatMap_cons, List.length_append, List.length_cons] at ih ⊢; rw [ih]; simp [encChg, IV.cells]; omega
theorem oneSize_outs (l : List Chg) : oneSize 4 (outs l) = true := by
  induction l with
  | nil => rfl
  | cons a r ih => simp only [outs, List.map_cons] at ih ⊢; simp [oneSize, ih, encChg, IV.cells]
def WoI (a b : List Ty) (L : List Chg) (m : Nat) (n : Nat) (st : St) : Prop := ∃ j : Nat, lk st.ρ 7 = some (.loc 0 0 0) ∧ lk st.ρ 18 = some (.iv (.int .i64 (worstN (L.take j)))) ∧ lk st.ρ 116 = some (.lst 80 m) ∧ lk st.ρ 117 = some (.iv (.int .i64 (L.length : Int))) ∧ lk st.ρ 118 = some (.iv (.int .i64 (j : Int))) ∧
  lk st.σ 80 = some (m, .list 70 4 (outs L)) ∧ lk st.σ 0 = some (0, .box [tvT a, tvT b, .lst 80 m]) ∧ j ≤ L.length ∧ L.length < j + n
noncomputable def diffR (a b : List Ty) : IV := .tup [.slice (outs (diffC a b)), .int .i64 (worstN (diffC a b)), .int .i64 0]
theorem dfL3_vc {s : St} (h : DfS a b τ (diffC a b) s) (hτ : TauOk a b τ) (hg : GP a b) : vc envDf dfL3 (endsFC A_evolve_Diff.res (· = diffR a b)) s := by
  have ho := h.out hτ
  have p7 := h.p7
  have hlen := flatMap_lenK (g := df2 a) b fun s hs => df2_len a s
  have hlen1 := flatMap_lenK (g := df1 a b) a fun s hs => df1_len hg hs
  have lb := hg.lb
  have la := hg.la
  have hcap : (diffC a b).length * 40 ≤ 140737488355328 := by unfold diffC; rw [List.length_append]; omega
  unfold diffR
  generalize diffC a b = L at ho hcap
  clear h
  simp only [dfL3, A_evolve_Diff, sq1, sq2]
  rcases ho with ⟨k0, hnil, k80⟩ | ⟨m, k0, k80⟩
  · subst hnil
    (simp -implicitDefEqProofs +contextual (maxSteps := 8000000) only [go_sem, ↓reduceIte, zn0, zn1, zn2, zn3, zn4, reduceCtorEq, zn5, zi0, zi1, zi2, zi3, zi4, zn6, zn7, zn8, zn9, envDf, p7, k0])
    refine vc_loop (fun n st => lk st.ρ 7 = some (.loc 0 0 0) ∧ lk st.ρ 18 = some (.iv (.int .i64 1)) ∧ lk st.ρ 117 = some (.iv (.int .i64 0)) ∧ lk st.ρ 118 = some (.iv (.int .i64 0)) ∧ lk st.σ 0 = some (0, .box [tvT a, tvT b, .iv .nil])) 1 ⟨by simp [lk, p7], by simp [lk], by simp [lk], by simp [lk], by simpa using k0⟩ ?_
    clear p7 k0 k80 s
    rintro n s ⟨p7, p18, p117, p118, k0⟩
    (simp -implicitDefEqProofs +contextual (maxSteps := 8000000) only [go_sem, ↓reduceIte, zn0, zn1, zn2, zn3, zn4, reduceCtorEq, zn5, zi0, zi1, zi2, zi3, zi4, zn6, zn7, zn8, zn9, envDf, p7, p18, p117, p118, k0])
    exact ⟨by omega, rfl, rfl⟩
  · have hlL : L.length ≤ 4000000000000 := by omega
    have hol : (outs L).length = L.length := by simp [outs]
    (simp -implicitDefEqProofs +contextual (maxSteps := 8000000) only [go_sem, ↓reduceIte, zn0, zn1, zn2, zn3, zn4, reduceCtorEq, zn5, zi0, zi1, zi2, zi3, zi4, zn6, zn7, zn8, zn9, envDf, p7, k0, k80, hol])
    refine vc_loop (WoI a b L m) (L.length + 1) ⟨0, by simp [lk, p7], by simp [lk, worstN], by simp [lk], by simp [lk], by simp [lk], by simpa using k80, by simpa using k0, by omega, by omega⟩ ?_
    clear p7 k0 k80 s
    rintro n s ⟨j, p7, p18, p116, p117, p118, k80, k0, g1, g2⟩
    by_cases hj : j < L.length
    · obtain ⟨c, hc⟩ : ∃ c, L[j]? = some c := ⟨L[j], by simp [hj]⟩
      have hmc : (outs L)[j]? = some (encChg c) := get_map (f := encChg) hc
      simp only [encChg] at hmc
      have hw := wrap1 hj (by omega)
      have hlt : (j : Int) < (L.length : Int) := by omega
      have et : L.take (j + 1) = L.take j ++ [c] := by rw [List.take_add_one, hc]; rfl
      have hfl := flat_outs L
      have hb4 : j * 4 + 4 ≤ L.length * 4 := by omega
      have hwo : (if worstN (L.take j) < c.cls then c.cls else worstN (L.take j)) = worstN (L.take (j + 1)) := by rw [et, worstN_snoc]; rfl
      (simp -implicitDefEqProofs +contextual (maxSteps := 8000000) only [go_sem, ↓reduceIte, zn0, zn1, zn2, zn3, zn4, reduceCtorEq, zn5, zi0, zi1, zi2, zi3, zi4, zn6, zn7, zn8, zn9, envDf, p7, p18, p116, p117, p118, k80, k0, hj, hlt, hmc, hw, hfl, hb4, forall_eq'])
      exact ⟨n - 1, by omega, j + 1, by simp [lk, p7], by simp [lk, hwo], by simp [lk, p116], by simp [lk, p117], by simp [lk], by simp [lk_upd, k80], by simp [lk_upd, k0], by omega, by omega⟩
    · have hlt : ¬ (j : Int) < (L.length : Int) := by omega
      rw [List.take_of_length_le (by omega)] at p18
      have hos := oneSize_outs L
      (simp -implicitDefEqProofs +contextual (maxSteps := 8000000) only [go_sem, ↓reduceIte, zn0, zn1, zn2, zn3, zn4, reduceCtorEq, zn5, zi0, zi1, zi2, zi3, zi4, zn6, zn7, zn8, zn9, envDf, p7, p18, p116, p117, p118, k80, k0, hj, hlt, hol, hos, hcap])
      exact ⟨by omega, by omega⟩
end
theorem good_uniq {t : List Ty} (h : GoodT t) : UniqN t := fun i x hx => (h.2 i x hx).1.1
theorem fieldB_fok {t : List Ty} {x : Ty} {f : FT} (h : fieldB t x f = true) : ((f.kind = 16 ∨ f.kind = 17) → 0 ≤ f.ref ∧ ∃ z, t[f.ref.toNat]? = some z) ∧ (f.label = 4 → 0 ≤ f.oneof ∧ ∃ z, x.oneofs[f.oneof.toNat]? = some z) := by
  unfold fieldB at h
  simp only [Bool.and_eq_true] at h
  obtain ⟨h1, _, _, _, h4, _⟩ := h
  constructor
  · intro hk
    rw [if_pos hk] at h1
    simp only [sortB, Bool.and_eq_true, decide_eq_true_eq] at h1
    refine ⟨h1.1, ?_⟩
    have h2 := h1.2
    split at h2
    · rename_i z hz; exact ⟨z, hz⟩
    · cases h2
  · intro hl
    rw [if_pos hl] at h4
    simp only [decide_eq_true_eq] at h4
    exact ⟨h4.1, x.oneofs[f.oneof.toNat]'(by omega), by rw [List.getElem?_eq_getElem]⟩
theorem msg_fok {t : List Ty} {x : Ty} (h : MsgOk t x) : FOk t x := by
  intro f hf
  obtain ⟨i, hi⟩ := List.getElem?_of_mem hf
  exact fieldB_fok (h.2.2.2.2.2.2.1 i f hi).2.2.2.1
theorem good_at {t : List Ty} (h : GoodT t) {x : Ty} (hx : x ∈ t) : TyOk t x := by
  obtain ⟨i, hi⟩ := List.getElem?_of_mem hx
  exact (h.2 i x hi).2
theorem ty_lens {t : List Ty} {x : Ty} (h : TyOk t x) : x.syms.length ≤ 2000000 ∧ x.fields.length ≤ 2000000 := by
  cases he : x.enum with
  | true =>
    have := h.1 he
    exact ⟨by have := this.2.1; omega, by have := this.2.2.2.1; omega⟩
  | false =>
    have := h.2 he
    exact ⟨by have := this.1; omega, by have := this.2.1; omega⟩
theorem good_gp {a b : List Ty} (ha : GoodT a) (hb : GoodT b) : GP a b where
  ua := good_uniq ha
  ub := good_uniq hb
  la := ha.1
  lb := hb.1
  sa := fun x hx => ty_lens (good_at ha hx)
  sb := fun x hx => ty_lens (good_at hb hx)
  mo := fun x hx y hy ex ey => by
    have h1 := (good_at ha hx).2 ex
    have h2 := (good_at hb hy).2 ey
    exact ⟨msg_rising h1, msg_rising h2, by have := h1.2.1; omega, by have := h2.2.1; omega, msg_fok h1, msg_fok h2, by have := h1.2.2.1; omega, by have := h2.2.2.1; omega, h1.2.2.2.2.2.1.hi, h2.2.2.2.2.2.1.hi⟩
noncomputable def diffV (a b : List Ty) : IV := if dec (GoodT a) = true ∧ dec (GoodT b) = true then diffR a b else .tup [.slice [], .int .i64 0, .int .i64 18]
theorem av1 (n : Nat) (x y z : IV) : Av [(0, n, .box [.iv x, .iv y, .iv z])] := Av.up (σ := []) (q := 0) (fun q n it h => by cases h) rfl
theorem av2 (n m : Nat) (x y z : IV) (t : List Ty) : Av [(0, n, .box [.iv x, .iv y, .iv z]), (90, m, .map .str (encAhead t))] := Av.up (q := 90) (av1 n x y z) (avMap t)
theorem av3 (n m k : Nat) (x y z : IV) (t u : List Ty) : Av [(0, n, .box [.iv x, .iv y, .iv z]), (90, m, .map .str (encAhead t)), (92, k, .map .str (encAhead u))] := Av.up (q := 92) (av2 n m x y z t) (avMap u)
def tau (a b : List Ty) : Slots := [(0, 0, .box [tvT a, tvT b, .iv .nil]), (90, 0, .map .str (encAhead a)), (92, 0, .map .str (encAhead b))]
theorem tauOk (a b : List Ty) : TauOk a b (tau a b) := ⟨.inl ⟨by simp [tau, lk], rfl, by simp [tau, lk]⟩, by simp [tau, lk], by simp [tau, lk], fun q hq h89 => by
  simp only [dV, decide_eq_true_eq] at hq
  simp only [tau, lk]
  rw [if_neg (by omega), if_neg (by omega), if_neg (by omega)]⟩
theorem evolve_Diff_fc (a b : List Ty) (ha : okT a) (hb : okT b) : FC Tryd.prog i_evolve_Diff [encTable a, encTable b] (· = diffV a b) := by
  have hga := (g_table_Good_is a).trans (if_pos ha)
  have hgb := (g_table_Good_is b).trans (if_pos hb)
  simp only [encTable] at hga hgb
  refine FC.vc envDf_ok F_evolve_Diff T_evolve_Diff L_evolve_Diff ?_
  rw [show A_evolve_Diff.code = .seq (sq1 A_evolve_Diff.code) (.seq (sq1 (sq2 A_evolve_Diff.code)) (.seq (sq1 (sq2 (sq2 A_evolve_Diff.code))) (.seq (sq1 (sq2 (sq2 (sq2 A_evolve_Diff.code)))) (.seq dfL1 (.seq dfL2 dfL3))))) from rfl]
  unfold diffV
  cases ea : dec (GoodT a) with
  | false =>
    rw [ea] at hga
    rw [if_neg (by simp)]
    simp only [A_evolve_Diff, sq1, sq2, args0, zl0, zl1, zl2, zl3, zn1]
    (simp -implicitDefEqProofs +contextual (maxSteps := 8000000) only [go_sem, ↓reduceIte, zn0, zn1, zn2, zn3, zn4, reduceCtorEq, zn5, zi0, zi1, zi2, zi3, zi4, zn6, zn7, zn8, zn9, envDf, encTable, i_table_Good, hga])
  | true =>
    rw [ea] at hga
    cases eb : dec (GoodT b) with
    | false =>
      rw [eb] at hgb
      rw [if_neg (by simp)]
      simp only [A_evolve_Diff, sq1, sq2, args0, zl0, zl1, zl2, zl3, zn1]
      (simp -implicitDefEqProofs +contextual (maxSteps := 8000000) only [go_sem, ↓reduceIte, zn0, zn1, zn2, zn3, zn4, reduceCtorEq, zn5, zi0, zi1, zi2, zi3, zi4, zn6, zn7, zn8, zn9, envDf, encTable, i_table_Good, hga, hgb])
    | true =>
      rw [eb] at hgb
      rw [if_pos ⟨rfl, rfl⟩]
      have hG := good_gp (dec_iff.1 ea) (dec_iff.1 eb)
      have hr : A_evolve_Diff.res = [.tmp 4, .tmp 5, .tmp 6] := rfl
      have h3 := fun (τ : Slots) (s : St) => dfL3_vc (a := a) (b := b) (τ := τ) (s := s)
      rw [hr] at h3 ⊢
      simp only [A_evolve_Diff, sq1, sq2, args0, zl0, zl1, zl2, zl3, zn1]
      (simp -implicitDefEqProofs +contextual (maxSteps := 8000000) only [go_sem, ↓reduceIte, zn0, zn1, zn2, zn3, zn4, reduceCtorEq, zn5, zi0, zi1, zi2, zi3, zi4, zn6, zn7, zn8, zn9, envDf, encTable, nxt, hga, hgb])
      refine vcExD_mk (.mp 90 0) (upd _ 90 (0, .map .str (encAhead a))) (byName_gcD a _ hG.ua (by have := hG.la; omega) (by simp [lk, upd]) (by simp [lk, upd]) (av1 _ _ _ _)) ?_
      (simp -implicitDefEqProofs +contextual (maxSteps := 8000000) only [go_sem, ↓reduceIte, zn0, zn1, zn2, zn3, zn4, reduceCtorEq, zn5, zi0, zi1, zi2, zi3, zi4, zn6, zn7, zn8, zn9, envDf, encTable, nxt])
      refine vcExD_mk (.mp 92 0) (upd _ 92 (0, .map .str (encAhead b))) (byName_b_gcD b _ hG.ub (by have := hG.lb; omega) (by simp [lk, upd]) (by simp [lk, upd]) (av2 _ _ _ _ _ a)) ?_
      (simp -implicitDefEqProofs +contextual (maxSteps := 8000000) only [go_sem, ↓reduceIte, zn0, zn1, zn2, zn3, zn4, reduceCtorEq, zn5, zi0, zi1, zi2, zi3, zi4, zn6, zn7, zn8, zn9, envDf, encTable, nxt])
      refine dfL1_vc (τ := tau a b) ⟨by simp [lk, encTable], by simp [lk, encTable], by simp [lk], by simp [lk], by simp [lk], fun q hq => rfl, av3 _ _ _ _ _ _ a b⟩ (tauOk a b) hG ?_
      intro s' h
      simp only [thenC_normal, vc_seq]
      refine dfL2_vc h (tauOk a b) hG ?_
      intro s' h
      simp only [thenC_normal]
      exact h3 (tau a b) s' h (tauOk a b) hG
open Classical
noncomputable def g_evolve_Diff : List IV → Option IV
  | [a_, b_] => (match decTable a_ with
    | some a => (match decTable b_ with
    | some b => if okT a ∧ okT b then some (diffV a b) else none
    | none => none)
    | none => none)
  | _ => none
theorem g_evolve_Diff_is (a : List Ty) (b : List Ty) : g_evolve_Diff [encTable a, encTable b] = if okT a ∧ okT b then some (diffV a b) else none := by
  simp only [g_evolve_Diff, decTable_enc, decTable_enc]
theorem g_evolve_Diff_ok : ∀ xs r, g_evolve_Diff xs = some r → FC Tryd.prog i_evolve_Diff xs (· = r) := by
  intro xs r h
  unfold g_evolve_Diff at h
  split at h
  · rename_i a_ b_
    split at h
    · rename_i a ha
      split at h
      · rename_i b hb
        split at h
        · rename_i hpre
          injection h with h; subst h
          have := decTable_enc_inv ha; subst this
          have := decTable_enc_inv hb; subst this
          exact evolve_Diff_fc a b hpre.1 hpre.2
        · cases h
      · cases h
    · cases h
  · cases h

end Go.Proofs.YtmdkcapbahjipaaDoor.Ag
namespace Go.Proofs.YtmdkcapbahjipaaDoor.Ag
def isAggIV : IV → Bool
  | .agg _ => true
  | _ => false
def okN : IV → Bool
  | .agg [.slice xs] => xs.all isAggIV
  | _ => false
def deepN : IV → IV
  | .agg [.slice xs] => .agg [.slice (xs.map nrm)]
  | x => x
theorem nrm_cells : ∀ {x : IV}, isAggIV x = true → (nrm x).cells = x.cells.map nrm0
  | .agg cs, _ => rfl
theorem flat_nrm : ∀ {xs : List IV}, xs.all isAggIV = true → flat (xs.map nrm) = (flat xs).map nrm0
  | [], _ => rfl
  | x :: xs, h => by
    rw [List.all_cons, Bool.and_eq_true] at h
    have ih := flat_nrm h.2
    simp only [flat, List.map_cons, List.flatMap_cons, List.map_append] at ih ⊢
    rw [ih, nrm_cells h.1]
theorem slice_nrm {I : Nat → Prop} {w : World} {xs : List IV} {v : Value} (hx : xs.all isAggIV = true) (h : Rel I w (.slice xs) v) : Rel I w (.slice (xs.map nrm)) v := by
  cases h with
  | empty a cap => exact .empty a cap
  | slice _ b off cap sz cv hc hs hI hm ho hr =>
    have hl : (xs.map nrm).length = xs.length := List.length_map _
    have e := flat_nrm hx
    have key := Rel.slice (I := I) (w := w) (xs.map nrm) b off cap sz cv (by rw [hl]; exact hc) (by
        intro y hy
        obtain ⟨x, hxm, rfl⟩ := List.mem_map.1 hy
        rw [nrm_cells (List.all_eq_true.1 hx x hxm), List.length_map]; exact hs x hxm) hI (by
        intro q c hq
        rw [e, List.getElem?_map, Option.map_eq_some_iff] at hq
        obtain ⟨c', h1, _⟩ := hq
        exact hm q c' h1) (by
        intro q c hq
        rw [e, List.getElem?_map, Option.map_eq_some_iff] at hq
        obtain ⟨c', h1, rfl⟩ := hq
        exact nrm0_one (ho q c' h1)) (by
        intro q c hq
        rw [e, List.getElem?_map, Option.map_eq_some_iff] at hq
        obtain ⟨c', h1, rfl⟩ := hq
        exact nrm0_rel (hr q c' h1))
    rw [hl] at key
    exact key
theorem deepN_rel {I : Nat → Prop} {w : World} {x : IV} {v : Value} (ho : okN x = true) (h : Rel I w x v) : Rel I w (deepN x) v := by
  unfold okN at ho
  split at ho
  · rename_i xs
    cases h with
    | agg _ vs hn ho' hr =>
      refine .agg [.slice (xs.map nrm)] vs (by simpa using hn) (fun c hc => by simp only [List.mem_singleton] at hc; subst hc; rfl) ?_
      intro q c u hc hu
      cases q with
      | zero =>
        simp at hc; subst hc
        exact slice_nrm ho (hr 0 (.slice xs) u rfl hu)
      | succ q => simp at hc
  · cases ho
theorem FC.deep2 {P : Program} {f : FuncId} {x y : IV} {Q : IV → Prop} (hx : okN x = true) (hy : okN y = true) (h : FC P f [deepN x, deepN y] Q) : FC P f [x, y] Q := by
  intro I w vs h1 h2 h3
  refine h I w vs h1 h2 ?_
  intro q c v hc hv
  match q with
  | 0 => simp at hc; subst hc; exact deepN_rel hx (h3 0 x v rfl hv)
  | 1 => simp at hc; subst hc; exact deepN_rel hy (h3 1 y v rfl hv)
  | q + 2 => simp at hc
def exE : Ty := ⟨⟨#[69]⟩, true, [], [], [⟨⟨#[65]⟩, 0⟩], []⟩
def ex1 : FT := ⟨⟨#[120]⟩, 1, 2, 0, 0, 0, 0⟩
def ex2 : FT := ⟨⟨#[108]⟩, 2, 4, 0, 3, 0, 0⟩
def ex3 : FT := ⟨⟨#[109]⟩, 3, 17, 1, 1, 0, 0⟩
def ex4 : FT := ⟨⟨#[115]⟩, 4, 14, 0, 0, 0, 0⟩
def exM (fs : List FT) : Ty := ⟨⟨#[77]⟩, false, fs, [], [], []⟩
def simpleT : List Ty := [exE, exM [ex1, ex2, ex3]]
def moreT : List Ty := [exE, exM [ex1, ex2, ex3, ex4]]
theorem good_two {e m : Ty} (h1 : NameOk [] e) (h2 : TyOk [e, m] e) (h3 : NameOk [e] m) (h4 : TyOk [e, m] m) : GoodT [e, m] := by
  refine ⟨by simp, ?_⟩
  intro i x hx
  match i, hx with
  | 0, hx => simp at hx; subst hx; exact ⟨h1, h2⟩
  | 1, hx => simp at hx; subst hx; exact ⟨h3, h4⟩
  | n + 2, hx => simp at hx
theorem exE_name : NameOk [] exE := ⟨by simp, by decide, by decide, .inl (by decide)⟩
theorem exM_name (fs : List FT) : NameOk [exE] (exM fs) := ⟨by simp [exE, exM], by show (parts ⟨#[77]⟩).length ≤ 8; decide, by show ∀ p ∈ parts ⟨#[77]⟩, nameB p = true; decide, .inl (by show (parts ⟨#[77]⟩).length = 1; decide)⟩
theorem exE_ok (t : List Ty) : TyOk t exE := by
  refine ⟨fun _ => ⟨by simp [exE], by simp [exE], ?_, rfl, rfl, rfl, ?_, by simp [exE], by simp [exE]⟩, fun h => (by cases h)⟩
  · intro s hs; simp [exE] at hs; subst hs; rfl
  · intro s hs; simp [exE] at hs; subst hs; exact ⟨by decide, by decide, by decide⟩
theorem exM_ok {fs : List FT} (t : List Ty) (h1 : fs.length ≤ 128) (h2 : ∀ n ∈ fs.map FT.name, nameB n = true) (h3 : (fs.map FT.name).Nodup) (h4 : ∀ (i : Nat) (f : FT), fs[i]? = some f → FieldOk t (exM fs) i f) : TyOk t (exM fs) := by
  refine ⟨fun h => (by cases h), fun _ => ⟨rfl, h1, by simp [exM], by simpa [names, exM] using h2, by simpa [names, exM] using h3, fun i r h => by simp [exM] at h, h4, fun i hi => by simp [exM] at hi⟩⟩
theorem simple_good : GoodT simpleT := by
  refine good_two exE_name (exE_ok _) (exM_name _) (exM_ok _ (by simp) (by decide) (by simp [ex1, ex2, ex3]) ?_)
  intro i f hf
  match i, hf with
  | 0, hf => simp at hf; subst hf; exact ⟨by decide, by decide, rfl, by decide, fun p h => by omega⟩
  | 1, hf => simp at hf; subst hf; exact ⟨by decide, by decide, rfl, by decide, fun p h hp => by simp [exM] at hp; subst hp; decide⟩
  | 2, hf => simp at hf; subst hf; exact ⟨by decide, by decide, rfl, by decide, fun p h hp => by simp [exM] at hp; subst hp; decide⟩
  | n + 3, hf => simp at hf
theorem more_good : GoodT moreT := by
  refine good_two exE_name (exE_ok _) (exM_name _) (exM_ok _ (by simp) (by decide) (by simp [ex1, ex2, ex3, ex4]) ?_)
  intro i f hf
  match i, hf with
  | 0, hf => simp at hf; subst hf; exact ⟨by decide, by decide, rfl, by decide, fun p h => by omega⟩
  | 1, hf => simp at hf; subst hf; exact ⟨by decide, by decide, rfl, by decide, fun p h hp => by simp [exM] at hp; subst hp; decide⟩
  | 2, hf => simp at hf; subst hf; exact ⟨by decide, by decide, rfl, by decide, fun p h hp => by simp [exM] at hp; subst hp; decide⟩
  | 3, hf => simp at hf; subst hf; exact ⟨by decide, by decide, rfl, by decide, fun p h hp => by simp [exM] at hp; subst hp; decide⟩
  | n + 4, hf => simp at hf
theorem ex_diff : diffC simpleT moreT = [⟨2, 6, ⟨#[77]⟩, 4⟩] := by
  simp [diffC, simpleT, moreT, df1, df2, fN, exE, exM, enumsC, en1, en2, syF, messagesC, ms1, ms2, ms3, atF, ex1, ex2, ex3, ex4, fieldC, fcA, fcB, fcC, nameAt, numsF, eqR]
def diffIV : IV := .tup [.slice [.agg [.int .i64 2, .int .i64 6, .str ⟨#[77]⟩, .int .i64 4]], .int .i64 2, .int .i64 0]
theorem okT_two {e m : Ty} (h1 : okTy e) (h2 : okTy m) : okT [e, m] := ⟨by simp, fun x hx => by
  simp at hx
  rcases hx with rfl | rfl
  · exact h1
  · exact h2⟩
theorem okTy_E : okTy exE := by unfold okTy; decide
theorem okTy_M3 : okTy (exM [ex1, ex2, ex3]) := by unfold okTy; decide
theorem okTy_M4 : okTy (exM [ex1, ex2, ex3, ex4]) := by unfold okTy; decide
theorem diff_ex : FC Tryd.prog 28 [encTable simpleT, encTable moreT] (· = diffIV) := by
  have h := evolve_Diff_fc simpleT moreT (okT_two okTy_E okTy_M3) (okT_two okTy_E okTy_M4)
  rw [show diffV simpleT moreT = diffIV by
    unfold diffV diffR
    rw [dec_true simple_good, dec_true more_good, if_pos ⟨rfl, rfl⟩, ex_diff]
    simp [outs, encChg, worstN, worse, diffIV]] at h
  exact h
end Go.Proofs.YtmdkcapbahjipaaDoor.Ag
