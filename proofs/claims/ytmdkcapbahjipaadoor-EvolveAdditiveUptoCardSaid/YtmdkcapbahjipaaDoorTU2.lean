/- The changes gathered: differ.add. -/
import Derived.Test.YtmdkcapbahjipaaDoorTAirE
import Derived.Test.YtmdkcapbahjipaaDoorAgG
import Derived.Test.YtmdkcapbahjipaaDoorTM1
import Derived.Test.YtmdkcapbahjipaaDoorTU1
set_option linter.unusedVariables false
set_option linter.unusedSimpArgs false
set_option maxRecDepth 100000
set_option maxHeartbeats 8000000
open List renaming map_cons → zl0, map_nil → zl1, zipIdx_cons → zl2, zipIdx_nil → zl3
open Nat renaming reduceEqDiff → zn0, reduceAdd → zn1, reduceSub → zn2, reduceLeDiff → zn3, reduceMul → zn4, reduceBEq → zn5, reducePow → zn6, reduceLT → zn7, reduceDiv → zn8, reduceMod → zn9
open Int renaming reduceLT → zi0, reduceLE → zi1, reduceNeg → zi2, reduceEq → zi3, reduceToNat → zi4
namespace Go.Proofs.YtmdkcapbahjipaaDoor.Ag
attribute [-go_sem] Int.not_lt Int.not_le
attribute [-go_sem] nxt
structure Chg where
  cls : Int
  what : Int
  name : ByteArray
  num : Int
def encChg (c : Chg) : IV := .agg [.int .i64 c.cls, .int .i64 c.what, .str c.name, .int .i64 c.num]
noncomputable def envV : Env := { split := true }
theorem envV_ok : EnvOk Tryd.prog envV := EnvOk.noneS
def addArgs (k v : Nat) (c : Chg) : List TV := [.loc k v 0, .iv (.int .i64 c.cls), .iv (.int .i64 c.what), .iv (.str c.name), .iv (.int .i64 c.num)]
def outs (l : List Chg) : List IV := l.map encChg
theorem add_more {σ : Slots} {k v n : Nat} {a b : TV} {l : List Chg} (c : Chg) (hk : ¬ k = 80) (h : lk σ k = some (v, .box [a, b, .lst 80 n])) (h2 : lk σ 80 = some (n, .list 70 4 (outs l))) (hl : (l.length + 1) * 40 ≤ 140737488355328) :
    GC Tryd.prog i_evolve_differ_add (addArgs k v c) σ (fun r σ' => r = .tup [] ∧ σ' = upd (upd σ 80 (n + 1, .list 70 4 (outs (l ++ [c])))) k (v, .box [a, b, .lst 80 (n + 1)])) := by
  refine GC.vc envV_ok F_evolve_differ_add T_evolve_differ_add L_evolve_differ_add ?_
  unfold A_evolve_differ_add; simp only [addArgs, args0, zl0, zl1, zl2, zl3, zn1]
  have hk2 : ¬ 80 = k := fun e => hk e.symm
  have hlen : (outs l).length = l.length := by simp [outs]
  (simp -implicitDefEqProofs +contextual (maxSteps := 8000000) only [go_sem, ↓reduceIte, zn0, zn1, zn2, zn3, zn4, reduceCtorEq, zn5, zi0, zi1, zi2, zi3, zi4, zn6, zn7, zn8, zn9, envV, h, h2, hk, hk2, hlen, hl])
  simp [nxt, h2, outs, encChg]
theorem add_first {σ : Slots} {k v : Nat} {a b : TV} (c : Chg) (hk : ¬ k = 80) (h : lk σ k = some (v, .box [a, b, .iv .nil])) :
    GC Tryd.prog i_evolve_differ_add (addArgs k v c) σ (fun r σ' => r = .tup [] ∧ σ' = upd (upd σ 80 (nxt σ 80, .list 70 4 (outs [c]))) k (v, .box [a, b, .lst 80 (nxt σ 80)])) := by
  refine GC.vc envV_ok F_evolve_differ_add T_evolve_differ_add L_evolve_differ_add ?_
  unfold A_evolve_differ_add; simp only [addArgs, args0, zl0, zl1, zl2, zl3, zn1]
  have hk2 : ¬ 80 = k := fun e => hk e.symm
  (simp -implicitDefEqProofs +contextual (maxSteps := 8000000) only [go_sem, ↓reduceIte, zn0, zn1, zn2, zn3, zn4, reduceCtorEq, zn5, zi0, zi1, zi2, zi3, zi4, zn6, zn7, zn8, zn9, envV, h, hk, hk2])
  simp [outs, encChg]
theorem upd_mid {α : Type} (l : List (Nat × α)) {t u : Nat} (a b c : α) (h : ¬ t = u) : upd (upd (upd l t a) u b) t c = upd (upd l t c) u b := by
  induction l with
  | nil => simp [upd, h]
  | cons x l ih =>
    obtain ⟨k, d⟩ := x
    by_cases e : k = t
    · subst e; simp [upd, h]
    · by_cases e2 : k = u
      · subst e2; simp [upd, e, upd_upd]
      · simp [upd, e, e2, ih]
def addV (σ : Slots) (m : Nat) : Nat := match lk σ 80 with
  | some (n, _) => n + m
  | none => m - 1
def addAll (σ : Slots) (k v : Nat) (a b : TV) (l cs : List Chg) : Slots := match cs with
  | [] => σ
  | _ :: _ => upd (upd σ 80 (addV σ cs.length, .list 70 4 (outs (l ++ cs)))) k (v, .box [a, b, .lst 80 (addV σ cs.length)])
def OutP (σ : Slots) (k v : Nat) (a b : TV) (l : List Chg) : Prop :=
  (lk σ k = some (v, .box [a, b, .iv .nil]) ∧ l = [] ∧ lk σ 80 = none) ∨ ∃ n, lk σ k = some (v, .box [a, b, .lst 80 n]) ∧ lk σ 80 = some (n, .list 70 4 (outs l))
theorem addAll_out {σ : Slots} {k v : Nat} {a b : TV} {l : List Chg} (cs : List Chg) (hk : ¬ k = 80) (h : OutP σ k v a b l) : OutP (addAll σ k v a b l cs) k v a b (l ++ cs) := by
  cases cs with
  | nil => simpa [addAll] using h
  | cons c cs =>
    refine .inr ⟨addV σ (c :: cs).length, ?_, ?_⟩
    · simp [addAll, lk_upd]
    · simp [addAll, lk_upd, hk]
theorem addAll_lk {σ : Slots} {k v : Nat} {a b : TV} {l cs : List Chg} {q : Nat} (h1 : ¬ q = 80) (h2 : ¬ q = k) : lk (addAll σ k v a b l cs) q = lk σ q := by
  cases cs with
  | nil => rfl
  | cons c cs => simp [addAll, lk_upd, Ne.symm h1, Ne.symm h2, fun e : k = q => h2 e.symm, fun e : 80 = q => h1 e.symm]
theorem addAll_addAll {σ : Slots} {k v : Nat} {a b : TV} {l : List Chg} (cs ds : List Chg) (hk : ¬ k = 80) (h : OutP σ k v a b l) : addAll (addAll σ k v a b l cs) k v a b (l ++ cs) ds = addAll σ k v a b l (cs ++ ds) := by
  have hk2 : ¬ 80 = k := fun e => hk e.symm
  cases cs with
  | nil => simp [addAll]
  | cons c cs =>
    cases ds with
    | nil => simp [addAll]
    | cons d ds =>
      have e : addV (addAll σ k v a b l (c :: cs)) (d :: ds).length = addV σ (c :: cs ++ d :: ds).length := by
        have h80 : lk (addAll σ k v a b l (c :: cs)) 80 = some (addV σ (c :: cs).length, .list 70 4 (outs (l ++ c :: cs))) := by simp [addAll, lk_upd, hk]
        unfold addV at h80 ⊢
        rw [h80]
        rcases h with ⟨_, _, h3⟩ | ⟨n, _, h3⟩
        · rw [h3]; simp only [List.length_append, List.length_cons]; omega
        · rw [h3]; simp only [List.length_append, List.length_cons]; omega
      rw [show addAll (addAll σ k v a b l (c :: cs)) k v a b (l ++ c :: cs) (d :: ds) = upd (upd (addAll σ k v a b l (c :: cs)) 80 (addV (addAll σ k v a b l (c :: cs)) (d :: ds).length, .list 70 4 (outs (l ++ c :: cs ++ d :: ds)))) k (v, .box [a, b, .lst 80 (addV (addAll σ k v a b l (c :: cs)) (d :: ds).length)]) from rfl, e]
      simp only [addAll, List.cons_append]
      rw [upd_mid _ _ _ _ hk2, upd_upd]
      simp [List.append_assoc]
theorem add_gc {σ : Slots} {k v : Nat} {a b : TV} {l : List Chg} (c : Chg) (hk : ¬ k = 80) (h : OutP σ k v a b l) (hl : (l.length + 1) * 40 ≤ 140737488355328) :
    GC Tryd.prog i_evolve_differ_add (addArgs k v c) σ (fun r σ' => r = .tup [] ∧ σ' = addAll σ k v a b l [c]) := by
  rcases h with ⟨h1, rfl, h3⟩ | ⟨n, h1, h2⟩
  · have := add_first c hk h1
    simpa [addAll, addV, nxt, h3] using this
  · have := add_more c hk h1 h2 hl
    simpa [addAll, addV, h2] using this
def SameD (d : Nat → Bool) (σ τ : Slots) : Prop := ∀ q, d q = false → lk σ q = lk τ q
theorem SameD.up {d : Nat → Bool} {σ τ : Slots} {q : Nat} {x : Nat × Item} (h : SameD d σ τ) (hq : d q = true) : SameD d (upd σ q x) τ := by
  intro p hp
  have : ¬ q = p := fun e => by subst e; rw [hq] at hp; cases hp
  rw [lk_upd, if_neg this]; exact h p hp
theorem SameD.add {d : Nat → Bool} {σ τ : Slots} {k v : Nat} {a b : TV} {l cs : List Chg} (h : SameD d σ τ) (h80 : d 80 = false) : SameD d (addAll σ k v a b l cs) (addAll τ k v a b l cs) := by
  cases cs with
  | nil => exact h
  | cons c cs =>
    have e : addV σ (c :: cs).length = addV τ (c :: cs).length := by unfold addV; rw [h 80 h80]
    intro q hq
    simp only [addAll, lk_upd, e, h q hq]
theorem SameD.out {d : Nat → Bool} {σ τ : Slots} {k v : Nat} {a b : TV} {l : List Chg} (h : SameD d σ τ) (h80 : d 80 = false) (hk : d k = false) (ho : OutP τ k v a b l) : OutP σ k v a b l := by
  unfold OutP at ho ⊢
  rw [h 80 h80, h k hk]; exact ho
theorem addAll_drop {d : Nat → Bool} {σ : Slots} {k v : Nat} {a b : TV} {l cs : List Chg} (hd : ∀ q, d q = true → lk σ q = none) (h80 : d 80 = false) (hk : d k = false) {σ' : Slots} (h : SameD d σ' (addAll σ k v a b l cs)) (q : Nat) :
    lk (addAll σ k v a b l cs) q = if d q then none else lk σ' q := by
  cases hq : d q with
  | true =>
    have h1 : ¬ q = 80 := fun e => by subst e; rw [hq] at h80; cases h80
    have h2 : ¬ q = k := fun e => by subst e; rw [hq] at hk; cases hk
    rw [addAll_lk h1 h2, hd q hq]; rfl
  | false => rw [h q hq]; rfl
theorem addAll_av {d : Nat → Bool} {σ : Slots} {k v : Nat} {a b : TV} {l cs : List Chg} (h80 : d 80 = false) (hav : ∀ q n it, lk σ q = some (n, it) → avI d it = true) (ha : avT d a = true) (hb : avT d b = true) :
    ∀ q n it, lk (addAll σ k v a b l cs) q = some (n, it) → avI d it = true := by
  cases cs with
  | nil => exact hav
  | cons c cs =>
    intro q n it hq
    simp only [addAll, lk_upd] at hq
    split at hq
    · simp only [Option.some.injEq, Prod.mk.injEq] at hq; obtain ⟨_, rfl⟩ := hq
      simp only [avI, List.all_cons, List.all_nil, ha, hb]; simp [avT, h80]
    · split at hq
      · simp only [Option.some.injEq, Prod.mk.injEq] at hq; obtain ⟨_, rfl⟩ := hq; rfl
      · exact hav q n it hq
def en1 (x y : Ty) (s : Sym) : List Chg := match syF y.syms s.num with
  | none => [⟨4, 3, x.name, s.num⟩]
  | some q => if q.name = s.name then [] else [⟨3, 7, x.name, s.num⟩]
def en2 (x y : Ty) (s : Sym) : List Chg := match syF x.syms s.num with
  | none => [⟨3, 4, x.name, s.num⟩]
  | some _ => []
def enumsC (x y : Ty) : List Chg := x.syms.flatMap (en1 x y) ++ y.syms.flatMap (en2 x y)
theorem en1_len (x y : Ty) (s : Sym) : (en1 x y s).length ≤ 1 := by
  unfold en1
  split
  · simp
  · split <;> simp
theorem en2_len (x y : Ty) (s : Sym) : (en2 x y s).length ≤ 1 := by unfold en2; split <;> simp
theorem flatMap_len {α : Type} {g : α → List Chg} (hg : ∀ s, (g s).length ≤ 1) : ∀ l : List α, (l.flatMap g).length ≤ l.length
  | [] => by simp
  | s :: l => by
    have h1 := hg s
    have h2 := flatMap_len hg l
    simp only [List.flatMap_cons, List.length_append, List.length_cons]; omega
def dEn (q : Nat) : Bool := decide (q = 84 ∨ q = 85)
open Classical
noncomputable def g_table_SymbolAt : List IV → Option IV
  | [x_, .int .i64 n] => (match decTy x_ with
    | some x => if x.syms.length ≤ 2000000 then some (orS (syF x.syms n) (.bool true) (.bool false)) else none
    | none => none)
  | _ => none
theorem g_table_SymbolAt_is (x : Ty) (n : Int) : g_table_SymbolAt [encTy x, .int .i64 n] = if x.syms.length ≤ 2000000 then some (orS (syF x.syms n) (.bool true) (.bool false)) else none := by
  simp only [g_table_SymbolAt, decTy_enc]
theorem g_table_SymbolAt_ok : ∀ xs r, g_table_SymbolAt xs = some r → FC Tryd.prog i_table_SymbolAt xs (· = r) := by
  intro xs r h
  unfold g_table_SymbolAt at h
  split at h
  · rename_i x_ n
    split at h
    · rename_i x hx
      split at h
      · rename_i hpre
        injection h with h; subst h
        have := decTy_enc_inv hx; subst this
        exact SymbolAt_fc x n hpre
      · cases h
    · cases h
  · cases h

end Go.Proofs.YtmdkcapbahjipaaDoor.Ag
namespace Go.Proofs.YtmdkcapbahjipaaDoor.Ag
theorem callOk54 : callOk Tryd.prog 54 = true := by kernel_rfl
noncomputable def envVn : Env := { split := true, fc := [(i_table_SymbolAt, g_table_SymbolAt)], gr := [(54, fun vs σ Q => GC Tryd.prog 54 vs σ Q)] }
theorem envVn_ok : EnvOk Tryd.prog envVn := EnvOk.addF (E := { split := true, gr := [(54, fun vs σ Q => GC Tryd.prog 54 vs σ Q)] }) (EnvOk.addR EnvOk.noneS callOk54) g_table_SymbolAt_ok
def VnI (x y : Ty) (σ : Slots) (k v : Nat) (a b : TV) (l : List Chg) (n : Nat) (st : St) : Prop := ∃ j : Nat, lk st.ρ 0 = some (.loc k v 0) ∧ lk st.ρ 4 = some (.iv (.ref (encTy x))) ∧ lk st.ρ 5 = some (.iv (.ref (encTy y))) ∧
  lk st.ρ 15 = some (.iv (.slice (x.syms.map encSym))) ∧ lk st.ρ 16 = some (.iv (.int .i64 (x.syms.length : Int))) ∧ lk st.ρ 17 = some (.iv (.int .i64 (j : Int))) ∧
  SameD dEn st.σ (addAll σ k v a b l ((x.syms.take j).flatMap (en1 x y))) ∧ j ≤ x.syms.length ∧ x.syms.length < j + n
def VnJ (x y : Ty) (σ : Slots) (k v : Nat) (a b : TV) (l : List Chg) (n : Nat) (st : St) : Prop := ∃ j : Nat, lk st.ρ 0 = some (.loc k v 0) ∧ lk st.ρ 4 = some (.iv (.ref (encTy x))) ∧ lk st.ρ 5 = some (.iv (.ref (encTy y))) ∧
  lk st.ρ 50 = some (.iv (.slice (y.syms.map encSym))) ∧ lk st.ρ 51 = some (.iv (.int .i64 (y.syms.length : Int))) ∧ lk st.ρ 52 = some (.iv (.int .i64 (j : Int))) ∧
  SameD dEn st.σ (addAll σ k v a b l (x.syms.flatMap (en1 x y) ++ (y.syms.take j).flatMap (en2 x y))) ∧ j ≤ y.syms.length ∧ y.syms.length < j + n
theorem enums_gc (x y : Ty) (σ : Slots) (k v : Nat) (a b : TV) (l : List Chg) (hk : ¬ k = 80) (hkd : dEn k = false) (ho : OutP σ k v a b l) (hx : x.syms.length ≤ 2000000) (hy : y.syms.length ≤ 2000000) (hl : l.length ≤ 2000000000000) :
    GC Tryd.prog i_evolve_differ_enums [.loc k v 0, .iv (encTy x), .iv (encTy y)] σ (fun r σ' => r = .tup [] ∧ SameD dEn σ' (addAll σ k v a b l (enumsC x y))) := by
  refine GC.vc envVn_ok F_evolve_differ_enums T_evolve_differ_enums L_evolve_differ_enums ?_
  unfold A_evolve_differ_enums; simp only [args0, zl0, zl1, zl2, zl3, zn1]
  (simp -implicitDefEqProofs +contextual (maxSteps := 8000000) only [go_sem, ↓reduceIte, zn0, zn1, zn2, zn3, zn4, reduceCtorEq, zn5, zi0, zi1, zi2, zi3, zi4, zn6, zn7, zn8, zn9, encTy, envVn])
  refine vc_loop (VnI x y σ k v a b l) (x.syms.length + 1) ⟨0, by simp [lk], by simp [lk, encTy], by simp [lk, encTy], by simp [lk], by simp [lk], by simp [lk], by simp [addAll]; exact fun q _ => rfl, by omega, by omega⟩ ?_
  rintro n st ⟨j, p0, p4, p5, p15, p16, p17, hs, g1, g2⟩
  simp only [encTy] at p4 p5
  have h80 : dEn 80 = false := by decide
  have ho2 := hs.out h80 hkd (addAll_out _ hk ho)
  have hlen := flatMap_len (en1_len x y) (x.syms.take j)
  rw [List.length_take] at hlen
  by_cases hj : j < x.syms.length
  · obtain ⟨s, hsy⟩ : ∃ s, x.syms[j]? = some s := ⟨x.syms[j], by simp [hj]⟩
    have hms := get_map (f := encSym) hsy
    simp only [encSym] at hms
    have hw := wrap1 hj (by omega)
    have hlt : (j : Int) < (x.syms.length : Int) := by omega
    have et : x.syms.take (j + 1) = x.syms.take j ++ [s] := by rw [List.take_add_one, hsy]; rfl
    have hat := g_table_SymbolAt_is y s.num
    rw [if_pos hy] at hat
    simp only [encTy] at hat
    have hst : ∀ e, en1 x y s = e → (x.syms.take (j + 1)).flatMap (en1 x y) = (x.syms.take j).flatMap (en1 x y) ++ e := fun e he => by rw [et, List.flatMap_append]; simp [he]
    have hsz : ((l ++ (x.syms.take j).flatMap (en1 x y)).length + 1) * 40 ≤ 140737488355328 := by rw [List.length_append]; omega
    cases ha : syF y.syms s.num with
    | none =>
      rw [ha] at hat
      simp only [orS] at hat
      have he : en1 x y s = [⟨4, 3, x.name, s.num⟩] := by simp [en1, ha]
      (simp -implicitDefEqProofs +contextual (maxSteps := 8000000) only [go_sem, ↓reduceIte, zn0, zn1, zn2, zn3, zn4, reduceCtorEq, zn5, zi0, zi1, zi2, zi3, zi4, zn6, zn7, zn8, zn9, encTy, envVn, i_table_SymbolAt, i_evolve_differ_add, p0, p4, p5, p15, p16, p17, hj, hlt, hms, hw, hat, forall_eq'])
      refine vcExD_mk (.tup []) (addAll _ k v a b (l ++ (x.syms.take j).flatMap (en1 x y)) [⟨4, 3, x.name, s.num⟩]) (add_gc ⟨4, 3, x.name, s.num⟩ hk (((hs.up (q := 84) (by decide)).up (q := 84) (by decide)).out h80 hkd (addAll_out _ hk ho)) hsz) ?_
      (simp -implicitDefEqProofs +contextual (maxSteps := 8000000) only [go_sem, ↓reduceIte, zn0, zn1, zn2, zn3, zn4, reduceCtorEq, zn5, zi0, zi1, zi2, zi3, zi4, zn6, zn7, zn8, zn9, encTy, envVn, i_table_SymbolAt, i_evolve_differ_add, p0, p4, p5, p15, p16, p17, hw])
      refine ⟨n - 1, by omega, j + 1, by simp [lk, p0], by simp [lk, p4, encTy], by simp [lk, p5, encTy], by simp [lk, p15], by simp [lk, p16], by simp [lk], ?_, by omega, by omega⟩
      rw [hst _ he, ← addAll_addAll _ _ hk ho]
      dsimp only
      exact SameD.add ((hs.up (q := 84) (by decide)).up (q := 84) (by decide)) h80
    | some q =>
      rw [ha] at hat
      simp only [orS] at hat
      by_cases hn : q.name = s.name
      · have he : en1 x y s = [] := by simp [en1, ha, hn]
        (simp -implicitDefEqProofs +contextual (maxSteps := 8000000) only [go_sem, ↓reduceIte, zn0, zn1, zn2, zn3, zn4, reduceCtorEq, zn5, zi0, zi1, zi2, zi3, zi4, zn6, zn7, zn8, zn9, encTy, envVn, i_table_SymbolAt, i_evolve_differ_add, p0, p4, p5, p15, p16, p17, hj, hlt, hms, hw, hat, hn, forall_eq'])
        refine ⟨n - 1, by omega, j + 1, by simp [lk, p0], by simp [lk, p4, encTy], by simp [lk, p5, encTy], by simp [lk, p15], by simp [lk, p16], by simp [lk], ?_, by omega, by omega⟩
        rw [hst _ he, List.append_nil]
        exact (hs.up (q := 84) (by decide)).up (q := 84) (by decide)
      · have he : en1 x y s = [⟨3, 7, x.name, s.num⟩] := by simp [en1, ha, hn]
        (simp -implicitDefEqProofs +contextual (maxSteps := 8000000) only [go_sem, ↓reduceIte, zn0, zn1, zn2, zn3, zn4, reduceCtorEq, zn5, zi0, zi1, zi2, zi3, zi4, zn6, zn7, zn8, zn9, encTy, envVn, i_table_SymbolAt, i_evolve_differ_add, p0, p4, p5, p15, p16, p17, hj, hlt, hms, hw, hat, hn, forall_eq'])
        refine vcExD_mk (.tup []) (addAll _ k v a b (l ++ (x.syms.take j).flatMap (en1 x y)) [⟨3, 7, x.name, s.num⟩]) (add_gc ⟨3, 7, x.name, s.num⟩ hk (((hs.up (q := 84) (by decide)).up (q := 84) (by decide)).out h80 hkd (addAll_out _ hk ho)) hsz) ?_
        (simp -implicitDefEqProofs +contextual (maxSteps := 8000000) only [go_sem, ↓reduceIte, zn0, zn1, zn2, zn3, zn4, reduceCtorEq, zn5, zi0, zi1, zi2, zi3, zi4, zn6, zn7, zn8, zn9, encTy, envVn, i_table_SymbolAt, i_evolve_differ_add, p0, p4, p5, p15, p16, p17, hw])
        refine ⟨n - 1, by omega, j + 1, by simp [lk, p0], by simp [lk, p4, encTy], by simp [lk, p5, encTy], by simp [lk, p15], by simp [lk, p16], by simp [lk], ?_, by omega, by omega⟩
        rw [hst _ he, ← addAll_addAll _ _ hk ho]
        dsimp only
        exact SameD.add ((hs.up (q := 84) (by decide)).up (q := 84) (by decide)) h80
  · have hlt : ¬ (j : Int) < (x.syms.length : Int) := by omega
    rw [List.take_of_length_le (by omega)] at hs hlen ho2
    (simp -implicitDefEqProofs +contextual (maxSteps := 8000000) only [go_sem, ↓reduceIte, zn0, zn1, zn2, zn3, zn4, reduceCtorEq, zn5, zi0, zi1, zi2, zi3, zi4, zn6, zn7, zn8, zn9, encTy, envVn, i_table_SymbolAt, i_evolve_differ_add, p0, p4, p5, p15, p16, p17, hj, hlt])
    refine vc_loop (VnJ x y σ k v a b l) (y.syms.length + 1) ⟨0, by simp [lk, p0], by simp [lk, p4, encTy], by simp [lk, p5, encTy], by simp [lk], by simp [lk], by simp [lk], by simpa using hs, by omega, by omega⟩ ?_
    clear p0 p4 p5 p15 p16 p17 hs hlt hj g1 g2 ho2
    rintro n st ⟨j, p0, p4, p5, p50, p51, p52, hs, g1, g2⟩
    simp only [encTy] at p4 p5
    have hlen2 := flatMap_len (en2_len x y) (y.syms.take j)
    have hlen1 := flatMap_len (en1_len x y) x.syms
    rw [List.length_take] at hlen2
    by_cases hj : j < y.syms.length
    · obtain ⟨s, hsy⟩ : ∃ s, y.syms[j]? = some s := ⟨y.syms[j], by simp [hj]⟩
      have hms := get_map (f := encSym) hsy
      simp only [encSym] at hms
      have hw := wrap1 hj (by omega)
      have hlt : (j : Int) < (y.syms.length : Int) := by omega
      have et : y.syms.take (j + 1) = y.syms.take j ++ [s] := by rw [List.take_add_one, hsy]; rfl
      have hat := g_table_SymbolAt_is x s.num
      rw [if_pos hx] at hat
      simp only [encTy] at hat
      have hst : ∀ e, en2 x y s = e → x.syms.flatMap (en1 x y) ++ (y.syms.take (j + 1)).flatMap (en2 x y) = (x.syms.flatMap (en1 x y) ++ (y.syms.take j).flatMap (en2 x y)) ++ e := fun e he => by rw [et, List.flatMap_append]; simp [he]
      have hsz : ((l ++ (x.syms.flatMap (en1 x y) ++ (y.syms.take j).flatMap (en2 x y))).length + 1) * 40 ≤ 140737488355328 := by rw [List.length_append, List.length_append]; omega
      cases ha : syF x.syms s.num with
      | none =>
        rw [ha] at hat
        simp only [orS] at hat
        have he : en2 x y s = [⟨3, 4, x.name, s.num⟩] := by simp [en2, ha]
        (simp -implicitDefEqProofs +contextual (maxSteps := 8000000) only [go_sem, ↓reduceIte, zn0, zn1, zn2, zn3, zn4, reduceCtorEq, zn5, zi0, zi1, zi2, zi3, zi4, zn6, zn7, zn8, zn9, encTy, envVn, i_table_SymbolAt, i_evolve_differ_add, p0, p4, p5, p50, p51, p52, hj, hlt, hms, hw, hat, forall_eq'])
        refine vcExD_mk (.tup []) (addAll _ k v a b (l ++ (x.syms.flatMap (en1 x y) ++ (y.syms.take j).flatMap (en2 x y))) [⟨3, 4, x.name, s.num⟩]) (add_gc ⟨3, 4, x.name, s.num⟩ hk (((hs.up (q := 85) (by decide)).up (q := 85) (by decide)).out h80 hkd (addAll_out _ hk ho)) hsz) ?_
        (simp -implicitDefEqProofs +contextual (maxSteps := 8000000) only [go_sem, ↓reduceIte, zn0, zn1, zn2, zn3, zn4, reduceCtorEq, zn5, zi0, zi1, zi2, zi3, zi4, zn6, zn7, zn8, zn9, encTy, envVn, i_table_SymbolAt, i_evolve_differ_add, p0, p4, p5, p50, p51, p52, hw])
        refine ⟨n - 1, by omega, j + 1, by simp [lk, p0], by simp [lk, p4, encTy], by simp [lk, p5, encTy], by simp [lk, p50], by simp [lk, p51], by simp [lk], ?_, by omega, by omega⟩
        rw [hst _ he, ← addAll_addAll _ _ hk ho]
        dsimp only
        exact SameD.add ((hs.up (q := 85) (by decide)).up (q := 85) (by decide)) h80
      | some q =>
        rw [ha] at hat
        simp only [orS] at hat
        have he : en2 x y s = [] := by simp [en2, ha]
        (simp -implicitDefEqProofs +contextual (maxSteps := 8000000) only [go_sem, ↓reduceIte, zn0, zn1, zn2, zn3, zn4, reduceCtorEq, zn5, zi0, zi1, zi2, zi3, zi4, zn6, zn7, zn8, zn9, encTy, envVn, i_table_SymbolAt, i_evolve_differ_add, p0, p4, p5, p50, p51, p52, hj, hlt, hms, hw, hat, forall_eq'])
        refine ⟨n - 1, by omega, j + 1, by simp [lk, p0], by simp [lk, p4, encTy], by simp [lk, p5, encTy], by simp [lk, p50], by simp [lk, p51], by simp [lk], ?_, by omega, by omega⟩
        rw [hst _ he, List.append_nil]
        exact (hs.up (q := 85) (by decide)).up (q := 85) (by decide)
    · have hlt : ¬ (j : Int) < (y.syms.length : Int) := by omega
      rw [List.take_of_length_le (by omega)] at hs
      (simp -implicitDefEqProofs +contextual (maxSteps := 8000000) only [go_sem, ↓reduceIte, zn0, zn1, zn2, zn3, zn4, reduceCtorEq, zn5, zi0, zi1, zi2, zi3, zi4, zn6, zn7, zn8, zn9, encTy, envVn, i_table_SymbolAt, i_evolve_differ_add, p0, p4, p5, p50, p51, p52, hj, hlt])
      exact hs
theorem enums_gcD (x y : Ty) (σ : Slots) (k v : Nat) (a b : TV) (l : List Chg) (hk : ¬ k = 80) (hkd : dEn k = false) (ho : OutP σ k v a b l) (hx : x.syms.length ≤ 2000000) (hy : y.syms.length ≤ 2000000) (hl : l.length ≤ 2000000000000)
    (hd : ∀ q, dEn q = true → lk σ q = none) (hav : ∀ q n it, lk σ q = some (n, it) → avI dEn it = true) (ha : avT dEn a = true) (hb : avT dEn b = true) :
    GC Tryd.prog i_evolve_differ_enums [.loc k v 0, .iv (encTy x), .iv (encTy y)] σ (fun r σ' => r = .tup [] ∧ σ' = addAll σ k v a b l (enumsC x y)) :=
  GC.drop dEn (.tup []) (addAll σ k v a b l (enumsC x y)) rfl hd (fun r σ' h => ⟨h.1, fun q => addAll_drop hd (by decide) hkd h.2 q⟩) (addAll_av (by decide) hav ha hb) (enums_gc x y σ k v a b l hk hkd ho hx hy hl)
def clsN (b : Bool) : Int := if b then 3 else 4
theorem evolve_class_fc (b : Bool) : FC Tryd.prog i_evolve_class [.bool b] (· = .int .i64 (clsN b)) := by
  (refine FC.vc (EnvOk.noneS) F_evolve_class T_evolve_class L_evolve_class ?_; unfold A_evolve_class; simp only [args0, zl0, zl1, zl2, zl3, zn1])
  cases b
  · (simp -implicitDefEqProofs +contextual (maxSteps := 8000000) only [go_sem, ↓reduceIte, zn0, zn1, zn2, zn3, zn4, reduceCtorEq, zn5, zi0, zi1, zi2, zi3, zi4, zn6, zn7, zn8, zn9, clsN])
  · (simp -implicitDefEqProofs +contextual (maxSteps := 8000000) only [go_sem, ↓reduceIte, zn0, zn1, zn2, zn3, zn4, reduceCtorEq, zn5, zi0, zi1, zi2, zi3, zi4, zn6, zn7, zn8, zn9, clsN])
def eitherB (x y : FT) (a b : Int) : Bool := decide ((x.label = a ∧ y.label = b) ∨ (x.label = b ∧ y.label = a))
theorem either_gc (x y : FT) (a b : Int) (σ : Slots) : GC Tryd.prog 105 [.iv (.int .i64 a), .iv (.int .i64 b), .iv (.ref (encFT x)), .iv (.ref (encFT y))] σ (fun r σ' => r = .iv (.bool (eitherB x y a b)) ∧ σ' = σ) := by
  refine GC.vc (EnvOk.noneS (P := Tryd.prog)) F_evolve_relabels_1 T_evolve_relabels_1 L_evolve_relabels_1 ?_
  unfold A_evolve_relabels_1; simp only [args0, zl0, zl1, zl2, zl3, zn1]
  (simp -implicitDefEqProofs +contextual (maxSteps := 8000000) only [go_sem, ↓reduceIte, zn0, zn1, zn2, zn3, zn4, reduceCtorEq, zn5, zi0, zi1, zi2, zi3, zi4, zn6, zn7, zn8, zn9, encFT])
  (repeat' (first | (refine And.intro ?_ ?_) | (intro _)))
  all_goals grind (splits := 30) [eitherB]
theorem callOk105 : callOk Tryd.prog 105 = true := by kernel_rfl
noncomputable def envRl : Env := { split := true, gr := [(105, fun vs σ Q => GC Tryd.prog 105 vs σ Q)] }
theorem envRl_ok : EnvOk Tryd.prog envRl := EnvOk.noneS.addR callOk105
def relB (x y : FT) : Bool := (eitherB x y 0 1 && decide (x.kind ≠ 17) && decide (y.kind ≠ 17)) || eitherB x y 2 3
theorem evolve_relabels_fc (x y : FT) : FC Tryd.prog i_evolve_relabels [encFT x, encFT y] (· = .bool (relB x y)) := by
  (refine FC.vc (envRl_ok) F_evolve_relabels T_evolve_relabels L_evolve_relabels ?_; unfold A_evolve_relabels; simp only [args0, zl0, zl1, zl2, zl3, zn1])
  (simp -implicitDefEqProofs +contextual (maxSteps := 8000000) only [go_sem, ↓reduceIte, zn0, zn1, zn2, zn3, zn4, reduceCtorEq, zn5, zi0, zi1, zi2, zi3, zi4, zn6, zn7, zn8, zn9, encFT, envRl])
  refine vcEx_mk (fun r σ' => r = .iv (.bool (eitherB x y 0 1)) ∧ σ' = _) (either_gc x y 0 1 _) ?_
  rintro r σ' ⟨rfl, rfl⟩
  cases h1 : eitherB x y 0 1 with
  | false =>
    (simp -implicitDefEqProofs +contextual (maxSteps := 8000000) only [go_sem, ↓reduceIte, zn0, zn1, zn2, zn3, zn4, reduceCtorEq, zn5, zi0, zi1, zi2, zi3, zi4, zn6, zn7, zn8, zn9, encFT, envRl])
    refine vcEx_mk (fun r σ' => r = .iv (.bool (eitherB x y 2 3)) ∧ σ' = _) (either_gc x y 2 3 _) ?_
    rintro r σ' ⟨rfl, rfl⟩
    cases h2 : eitherB x y 2 3
    · (simp -implicitDefEqProofs +contextual (maxSteps := 8000000) only [go_sem, ↓reduceIte, zn0, zn1, zn2, zn3, zn4, reduceCtorEq, zn5, zi0, zi1, zi2, zi3, zi4, zn6, zn7, zn8, zn9, encFT, envRl])
      simp [relB, h1, h2]
    · (simp -implicitDefEqProofs +contextual (maxSteps := 8000000) only [go_sem, ↓reduceIte, zn0, zn1, zn2, zn3, zn4, reduceCtorEq, zn5, zi0, zi1, zi2, zi3, zi4, zn6, zn7, zn8, zn9, encFT, envRl])
      simp [relB, h1, h2]
  | true =>
    by_cases k1 : x.kind = 17
    · obtain ⟨n1, n2, n3, n4, n5, n6, n7⟩ := x
      dsimp only at k1; subst k1
      (simp -implicitDefEqProofs +contextual (maxSteps := 8000000) only [go_sem, ↓reduceIte, zn0, zn1, zn2, zn3, zn4, reduceCtorEq, zn5, zi0, zi1, zi2, zi3, zi4, zn6, zn7, zn8, zn9, encFT, envRl])
      refine vcEx_mk (fun r σ' => r = .iv (.bool (eitherB ⟨n1, n2, 17, n4, n5, n6, n7⟩ y 2 3)) ∧ σ' = _) (either_gc ⟨n1, n2, 17, n4, n5, n6, n7⟩ y 2 3 _) ?_
      rintro r σ' ⟨rfl, rfl⟩
      generalize h2 : eitherB ⟨n1, n2, 17, n4, n5, n6, n7⟩ y 2 3 = bb; cases bb
      · (simp -implicitDefEqProofs +contextual (maxSteps := 8000000) only [go_sem, ↓reduceIte, zn0, zn1, zn2, zn3, zn4, reduceCtorEq, zn5, zi0, zi1, zi2, zi3, zi4, zn6, zn7, zn8, zn9, encFT, envRl])
        simp [relB, h1, h2]
      · (simp -implicitDefEqProofs +contextual (maxSteps := 8000000) only [go_sem, ↓reduceIte, zn0, zn1, zn2, zn3, zn4, reduceCtorEq, zn5, zi0, zi1, zi2, zi3, zi4, zn6, zn7, zn8, zn9, encFT, envRl])
        simp [relB, h1, h2]
    · by_cases k2 : y.kind = 17
      · obtain ⟨n1, n2, n3, n4, n5, n6, n7⟩ := y
        dsimp only at k2; subst k2
        (simp -implicitDefEqProofs +contextual (maxSteps := 8000000) only [go_sem, ↓reduceIte, zn0, zn1, zn2, zn3, zn4, reduceCtorEq, zn5, zi0, zi1, zi2, zi3, zi4, zn6, zn7, zn8, zn9, encFT, envRl, k1])
        refine vcEx_mk (fun r σ' => r = .iv (.bool (eitherB x ⟨n1, n2, 17, n4, n5, n6, n7⟩ 2 3)) ∧ σ' = _) (either_gc x ⟨n1, n2, 17, n4, n5, n6, n7⟩ 2 3 _) ?_
        rintro r σ' ⟨rfl, rfl⟩
        generalize h2 : eitherB x ⟨n1, n2, 17, n4, n5, n6, n7⟩ 2 3 = bb; cases bb
        · (simp -implicitDefEqProofs +contextual (maxSteps := 8000000) only [go_sem, ↓reduceIte, zn0, zn1, zn2, zn3, zn4, reduceCtorEq, zn5, zi0, zi1, zi2, zi3, zi4, zn6, zn7, zn8, zn9, encFT, envRl])
          simp [relB, h1, h2, k1]
        · (simp -implicitDefEqProofs +contextual (maxSteps := 8000000) only [go_sem, ↓reduceIte, zn0, zn1, zn2, zn3, zn4, reduceCtorEq, zn5, zi0, zi1, zi2, zi3, zi4, zn6, zn7, zn8, zn9, encFT, envRl])
          simp [relB, h1, h2, k1]
      · (simp -implicitDefEqProofs +contextual (maxSteps := 8000000) only [go_sem, ↓reduceIte, zn0, zn1, zn2, zn3, zn4, reduceCtorEq, zn5, zi0, zi1, zi2, zi3, zi4, zn6, zn7, zn8, zn9, encFT, envRl, k1, k2])
        try simp [relB, h1, k1, k2]
open Classical
noncomputable def g_evolve_class : List IV → Option IV
  | [.bool b] => some (.int .i64 (clsN b))
  | _ => none
theorem g_evolve_class_ok : ∀ xs r, g_evolve_class xs = some r → FC Tryd.prog i_evolve_class xs (· = r) := by
  intro xs r h
  unfold g_evolve_class at h
  split at h
  · rename_i b
    injection h with h; subst h
    exact evolve_class_fc b
  · cases h

noncomputable def g_evolve_relabels : List IV → Option IV
  | [x_, y_] => (match decFT x_ with
    | some x => (match decFT y_ with
    | some y => some (.bool (relB x y))
    | none => none)
    | none => none)
  | _ => none
theorem g_evolve_relabels_is (x : FT) (y : FT) : g_evolve_relabels [encFT x, encFT y] = some (.bool (relB x y)) := by
  simp only [g_evolve_relabels, decFT_enc, decFT_enc]
theorem g_evolve_relabels_ok : ∀ xs r, g_evolve_relabels xs = some r → FC Tryd.prog i_evolve_relabels xs (· = r) := by
  intro xs r h
  unfold g_evolve_relabels at h
  split at h
  · rename_i x_ y_
    split at h
    · rename_i x hx
      split at h
      · rename_i y hy
        injection h with h; subst h
        have := decFT_enc_inv hx; subst this
        have := decFT_enc_inv hy; subst this
        exact evolve_relabels_fc x y
      · cases h
    · cases h
  · cases h

end Go.Proofs.YtmdkcapbahjipaaDoor.Ag
namespace Go.Proofs.YtmdkcapbahjipaaDoor.Ag
def fFn (n : Nat) (x : Ty) (f : FT) : TV := .fn (.func 94) [] [.loc 82 n 0, .iv (.ref (encTy x)), .iv (.ref (encFT f))]
noncomputable def envAd : Env := { split := true, gr := [(54, fun vs σ Q => GC Tryd.prog 54 vs σ Q)] }
theorem envAd_ok : EnvOk Tryd.prog envAd := EnvOk.noneS.addR callOk54
theorem fadd_gc {σ : Slots} {k v n : Nat} {a b : TV} {l : List Chg} (c w : Int) (x : Ty) (f : FT) (hk : ¬ k = 80) (h82 : lk σ 82 = some (n, .box [.loc k v 0])) (ho : OutP σ k v a b l) (hl : (l.length + 1) * 40 ≤ 140737488355328) :
    GC Tryd.prog 94 [.iv (.int .i64 c), .iv (.int .i64 w), .loc 82 n 0, .iv (.ref (encTy x)), .iv (.ref (encFT f))] σ (fun r σ' => r = .tup [] ∧ σ' = addAll σ k v a b l [⟨c, w, x.name, f.number⟩]) := by
  refine GC.vc envAd_ok F_evolve_differ_field_1 T_evolve_differ_field_1 L_evolve_differ_field_1 ?_
  unfold A_evolve_differ_field_1; simp only [args0, zl0, zl1, zl2, zl3, zn1]
  (simp -implicitDefEqProofs +contextual (maxSteps := 8000000) only [go_sem, ↓reduceIte, zn0, zn1, zn2, zn3, zn4, reduceCtorEq, zn5, zi0, zi1, zi2, zi3, zi4, zn6, zn7, zn8, zn9, encTy, encFT, envAd, h82, i_evolve_differ_add])
  refine vcExD_mk (.tup []) (addAll σ k v a b l [⟨c, w, x.name, f.number⟩]) (add_gc ⟨c, w, x.name, f.number⟩ hk ho hl) ?_
  (simp -implicitDefEqProofs +contextual (maxSteps := 8000000) only [go_sem, ↓reduceIte, zn0, zn1, zn2, zn3, zn4, reduceCtorEq, zn5, zi0, zi1, zi2, zi3, zi4, zn6, zn7, zn8, zn9, envAd])
theorem callOk94 : callOk Tryd.prog 94 = true := by kernel_rfl
noncomputable def envFd : Env := { split := true, fc := [(i_evolve_Wider, g_evolve_Wider), (i_evolve_class, g_evolve_class), (i_evolve_relabels, g_evolve_relabels)], gr := [(94, fun vs σ Q => GC Tryd.prog 94 vs σ Q)] }
theorem envFd_ok : EnvOk Tryd.prog envFd := (((EnvOk.noneS.addR callOk94).addF g_evolve_relabels_ok).addF g_evolve_class_ok).addF g_evolve_Wider_ok
def sq1 : ACode → ACode | .seq a _ => a | c => c
def sq2 : ACode → ACode | .seq _ b => b | c => c
def fdA : ACode := sq1 (sq2 (sq2 A_evolve_differ_field.code))
def fdB : ACode := sq1 (sq2 (sq2 (sq2 A_evolve_differ_field.code)))
def fdC : ACode := sq2 (sq2 (sq2 (sq2 A_evolve_differ_field.code)))
def dFd (q : Nat) : Bool := decide (q = 82)
def nameAt (t : List Ty) (i : Int) : ByteArray := match t[i.toNat]? with
  | some x => x.name
  | none => ⟨#[]⟩
def ooAt (l : List ByteArray) (i : Int) : ByteArray := match l[i.toNat]? with
  | some x => x
  | none => ⟨#[]⟩
open Classical in
noncomputable def fcA (x : Ty) (f g : FT) : List Chg := if f.name = g.name then [] else [⟨3, 7, x.name, f.number⟩]
open Classical in
noncomputable def fcB (ta tb : List Ty) (x : Ty) (f g : FT) : List Chg := if f.kind = g.kind then (if (f.kind = 16 ∨ f.kind = 17) ∧ nameAt ta f.ref ≠ nameAt tb g.ref then [⟨4, 8, x.name, f.number⟩] else []) else [⟨clsN (widerB f.kind g.kind), 8, x.name, f.number⟩]
open Classical in
noncomputable def fcC (x y : Ty) (f g : FT) : List Chg := if f.label = g.label then (if f.label = 4 ∧ ooAt x.oneofs f.oneof ≠ ooAt y.oneofs g.oneof then [⟨4, 9, x.name, f.number⟩] else if f.label = 5 ∧ f.key ≠ g.key then [⟨4, 8, x.name, f.number⟩] else []) else [⟨clsN (relB f g), 9, x.name, f.number⟩]
abbrev tvT (t : List Ty) : TV := .iv (.slice (t.map encTy))
structure FdS (ta tb : List Ty) (x y : Ty) (f g : FT) (σ : Slots) (v n : Nat) (l cs : List Chg) (s : St) : Prop where
  p5 : lk s.ρ 5 = some (.loc 82 n 0)
  p6 : lk s.ρ 6 = some (.iv (.ref (encTy x)))
  p7 : lk s.ρ 7 = some (.iv (.ref (encTy y)))
  p8 : lk s.ρ 8 = some (.iv (.ref (encFT f)))
  p9 : lk s.ρ 9 = some (.iv (.ref (encFT g)))
  p10 : lk s.ρ 10 = some (fFn n x f)
  k82 : lk s.σ 82 = some (n, .box [.loc 0 v 0])
  out : OutP s.σ 0 v (tvT ta) (tvT tb) (l ++ cs)
  same : SameD dFd s.σ (addAll σ 0 v (tvT ta) (tvT tb) l cs)
section
variable (ta tb : List Ty) (x y : Ty) (f g : FT) (σ : Slots) (v n : Nat) (l cs : List Chg) (Q : AEx → St → Prop) (s : St)
theorem FdS.next {ta tb x y f g σ v n l cs} {s : St} (h : FdS ta tb x y f g σ v n l cs s) (ho : OutP σ 0 v (tvT ta) (tvT tb) l) (c : Chg) {s' : St} (hσ : s'.σ = addAll s.σ 0 v (tvT ta) (tvT tb) (l ++ cs) [c])
    (h5 : lk s'.ρ 5 = lk s.ρ 5) (h6 : lk s'.ρ 6 = lk s.ρ 6) (h7 : lk s'.ρ 7 = lk s.ρ 7) (h8 : lk s'.ρ 8 = lk s.ρ 8) (h9 : lk s'.ρ 9 = lk s.ρ 9) (h10 : lk s'.ρ 10 = lk s.ρ 10) : FdS ta tb x y f g σ v n l (cs ++ [c]) s' := by
  refine ⟨h5 ▸ h.p5, h6 ▸ h.p6, h7 ▸ h.p7, h8 ▸ h.p8, h9 ▸ h.p9, h10 ▸ h.p10, ?_, ?_, ?_⟩
  · rw [hσ, addAll_lk (by decide) (by decide)]; exact h.k82
  · rw [hσ, ← List.append_assoc]; exact addAll_out _ (by decide) h.out
  · rw [hσ, ← addAll_addAll _ _ (by decide) ho]; exact h.same.add (by decide)
theorem FdS.keep {ta tb x y f g σ v n l cs} {s : St} (h : FdS ta tb x y f g σ v n l cs s) {s' : St} (hσ : s'.σ = s.σ)
    (h5 : lk s'.ρ 5 = lk s.ρ 5) (h6 : lk s'.ρ 6 = lk s.ρ 6) (h7 : lk s'.ρ 7 = lk s.ρ 7) (h8 : lk s'.ρ 8 = lk s.ρ 8) (h9 : lk s'.ρ 9 = lk s.ρ 9) (h10 : lk s'.ρ 10 = lk s.ρ 10) : FdS ta tb x y f g σ v n l (cs ++ []) s' := by
  rw [List.append_nil]
  exact ⟨h5 ▸ h.p5, h6 ▸ h.p6, h7 ▸ h.p7, h8 ▸ h.p8, h9 ▸ h.p9, h10 ▸ h.p10, hσ ▸ h.k82, hσ ▸ h.out, hσ ▸ h.same⟩
theorem OutP.box {σ : Slots} {k v : Nat} {a b : TV} {l : List Chg} (h : OutP σ k v a b l) : ∃ o, lk σ k = some (v, .box [a, b, o]) := by
  rcases h with ⟨h, _⟩ | ⟨n, h, _⟩
  · exact ⟨_, h⟩
  · exact ⟨_, h⟩
theorem fdA_vc (h : FdS ta tb x y f g σ v n l cs s) (hl : l.length ≤ 2000000000000) (hcs : cs.length ≤ 10) (ho : OutP σ 0 v (tvT ta) (tvT tb) l)
    (hQ : ∀ s', FdS ta tb x y f g σ v n l (cs ++ fcA x f g) s' → Q .normal s') : vc envFd fdA Q s := by
  have p5 := h.p5; have p6 := h.p6; have p7 := h.p7; have p8 := h.p8; have p9 := h.p9; have p10 := h.p10; have k82 := h.k82
  simp only [encTy, encFT] at p6 p7 p8 p9
  simp only [fFn] at p10
  obtain ⟨o, hb⟩ := h.out.box
  have hsz : ((l ++ cs).length + 1) * 40 ≤ 140737488355328 := by rw [List.length_append]; omega
  simp only [fdA, A_evolve_differ_field, sq1, sq2]
  by_cases hn : f.name = g.name
  · rw [show fcA x f g = [] by simp [fcA, hn]] at hQ
    (simp -implicitDefEqProofs +contextual (maxSteps := 8000000) only [go_sem, ↓reduceIte, zn0, zn1, zn2, zn3, zn4, reduceCtorEq, zn5, zi0, zi1, zi2, zi3, zi4, zn6, zn7, zn8, zn9, envFd, p5, p8, p9, p10, hn])
    exact hQ _ (h.keep rfl (by simp [lk]) (by simp [lk]) (by simp [lk]) (by simp [lk]) (by simp [lk]) (by simp [lk]))
  · rw [show fcA x f g = [⟨3, 7, x.name, f.number⟩] by simp [fcA, hn]] at hQ
    (simp -implicitDefEqProofs +contextual (maxSteps := 8000000) only [go_sem, ↓reduceIte, zn0, zn1, zn2, zn3, zn4, reduceCtorEq, zn5, zi0, zi1, zi2, zi3, zi4, zn6, zn7, zn8, zn9, envFd, p5, p8, p9, p10, hn])
    refine vcEx_mk (fun r σ' => r = .tup [] ∧ σ' = addAll s.σ 0 v (tvT ta) (tvT tb) (l ++ cs) [⟨3, 7, x.name, f.number⟩]) (fadd_gc (3) 7 x f (by decide) h.k82 h.out hsz) ?_
    rintro r σ' ⟨rfl, rfl⟩
    (simp -implicitDefEqProofs +contextual (maxSteps := 8000000) only [go_sem, ↓reduceIte, zn0, zn1, zn2, zn3, zn4, reduceCtorEq, zn5, zi0, zi1, zi2, zi3, zi4, zn6, zn7, zn8, zn9, envFd])
    exact hQ _ (h.next ho _ rfl (by simp [lk]) (by simp [lk]) (by simp [lk]) (by simp [lk]) (by simp [lk]) (by simp [lk]))
end
end Go.Proofs.YtmdkcapbahjipaaDoor.Ag
namespace Go.Proofs.YtmdkcapbahjipaaDoor.Ag
section
variable (ta tb : List Ty) (x y : Ty) (f g : FT) (σ : Slots) (v n : Nat) (l cs : List Chg) (Q : AEx → St → Prop) (s : St)
theorem fdC_vc (h : FdS ta tb x y f g σ v n l cs s) (hl : l.length ≤ 2000000000000) (hcs : cs.length ≤ 10) (ho : OutP σ 0 v (tvT ta) (tvT tb) l)
    (hf : f.label = 4 → 0 ≤ f.oneof ∧ ∃ z, x.oneofs[f.oneof.toNat]? = some z) (hg : g.label = 4 → 0 ≤ g.oneof ∧ ∃ z, y.oneofs[g.oneof.toNat]? = some z)
    (hQ : ∀ s', FdS ta tb x y f g σ v n l (cs ++ fcC x y f g) s' → Q .normal s') : vc envFd fdC Q s := by
  have p5 := h.p5; have p6 := h.p6; have p7 := h.p7; have p8 := h.p8; have p9 := h.p9; have p10 := h.p10; have k82 := h.k82
  simp only [encTy, encFT] at p6 p7 p8 p9
  simp only [fFn] at p10
  obtain ⟨o, hb⟩ := h.out.box
  have hsz : ((l ++ cs).length + 1) * 40 ≤ 140737488355328 := by rw [List.length_append]; omega
  have hrl := g_evolve_relabels_is f g
  simp only [encFT] at hrl
  simp only [fdC, A_evolve_differ_field, sq1, sq2]
  by_cases hk : f.label = g.label
  · by_cases h4 : g.label = 4
    · obtain ⟨f0, za, hza⟩ := hf (hk.trans h4)
      obtain ⟨g0, zb, hzb⟩ := hg h4
      have hma := get_map (f := IV.str) hza
      have hmb := get_map (f := IV.str) hzb
      have hla : f.oneof < (x.oneofs.length : Int) := by have := (List.getElem?_eq_some_iff.1 hza).1; omega
      have hlb : g.oneof < (y.oneofs.length : Int) := by have := (List.getElem?_eq_some_iff.1 hzb).1; omega
      have hna : ooAt x.oneofs f.oneof = za := by simp [ooAt, hza]
      have hnb : ooAt y.oneofs g.oneof = zb := by simp [ooAt, hzb]
      by_cases hn : za = zb
      · rw [show fcC x y f g = [] by simp [fcC, hk, h4, hna, hnb, hn]] at hQ
        (simp -implicitDefEqProofs +contextual (maxSteps := 8000000) only [go_sem, ↓reduceIte, zn0, zn1, zn2, zn3, zn4, reduceCtorEq, zn5, zi0, zi1, zi2, zi3, zi4, zn6, zn7, zn8, zn9, envFd, p5, p6, p7, p8, p9, p10, hk, h4, f0, g0, hla, hlb, hma, hmb, hn, forall_eq'])
        exact hQ _ (h.keep rfl (by simp [lk]) (by simp [lk]) (by simp [lk]) (by simp [lk]) (by simp [lk]) (by simp [lk]))
      · rw [show fcC x y f g = [⟨4, 9, x.name, f.number⟩] by simp [fcC, hk, h4, hna, hnb, hn]] at hQ
        (simp -implicitDefEqProofs +contextual (maxSteps := 8000000) only [go_sem, ↓reduceIte, zn0, zn1, zn2, zn3, zn4, reduceCtorEq, zn5, zi0, zi1, zi2, zi3, zi4, zn6, zn7, zn8, zn9, envFd, p5, p6, p7, p8, p9, p10, hk, h4, f0, g0, hla, hlb, hma, hmb, hn, forall_eq'])
        refine vcEx_mk (fun r σ' => r = .tup [] ∧ σ' = addAll s.σ 0 v (tvT ta) (tvT tb) (l ++ cs) [⟨4, 9, x.name, f.number⟩]) (fadd_gc (4) 9 x f (by decide) h.k82 h.out hsz) ?_
        rintro r σ' ⟨rfl, rfl⟩
        (simp -implicitDefEqProofs +contextual (maxSteps := 8000000) only [go_sem, ↓reduceIte, zn0, zn1, zn2, zn3, zn4, reduceCtorEq, zn5, zi0, zi1, zi2, zi3, zi4, zn6, zn7, zn8, zn9, envFd])
        exact hQ _ (h.next ho _ rfl (by simp [lk]) (by simp [lk]) (by simp [lk]) (by simp [lk]) (by simp [lk]) (by simp [lk]))
    · by_cases h5 : g.label = 5
      · by_cases hn : f.key = g.key
        · rw [show fcC x y f g = [] by simp [fcC, hk, h5, hn]] at hQ
          (simp -implicitDefEqProofs +contextual (maxSteps := 8000000) only [go_sem, ↓reduceIte, zn0, zn1, zn2, zn3, zn4, reduceCtorEq, zn5, zi0, zi1, zi2, zi3, zi4, zn6, zn7, zn8, zn9, envFd, p5, p6, p7, p8, p9, p10, hk, h4, h5, hn])
          exact hQ _ (h.keep rfl (by simp [lk]) (by simp [lk]) (by simp [lk]) (by simp [lk]) (by simp [lk]) (by simp [lk]))
        · rw [show fcC x y f g = [⟨4, 8, x.name, f.number⟩] by simp [fcC, hk, h5, hn]] at hQ
          (simp -implicitDefEqProofs +contextual (maxSteps := 8000000) only [go_sem, ↓reduceIte, zn0, zn1, zn2, zn3, zn4, reduceCtorEq, zn5, zi0, zi1, zi2, zi3, zi4, zn6, zn7, zn8, zn9, envFd, p5, p6, p7, p8, p9, p10, hk, h4, h5, hn])
          refine vcEx_mk (fun r σ' => r = .tup [] ∧ σ' = addAll s.σ 0 v (tvT ta) (tvT tb) (l ++ cs) [⟨4, 8, x.name, f.number⟩]) (fadd_gc (4) 8 x f (by decide) h.k82 h.out hsz) ?_
          rintro r σ' ⟨rfl, rfl⟩
          (simp -implicitDefEqProofs +contextual (maxSteps := 8000000) only [go_sem, ↓reduceIte, zn0, zn1, zn2, zn3, zn4, reduceCtorEq, zn5, zi0, zi1, zi2, zi3, zi4, zn6, zn7, zn8, zn9, envFd])
          exact hQ _ (h.next ho _ rfl (by simp [lk]) (by simp [lk]) (by simp [lk]) (by simp [lk]) (by simp [lk]) (by simp [lk]))
      · rw [show fcC x y f g = [] by simp [fcC, hk, h4, h5]] at hQ
        (simp -implicitDefEqProofs +contextual (maxSteps := 8000000) only [go_sem, ↓reduceIte, zn0, zn1, zn2, zn3, zn4, reduceCtorEq, zn5, zi0, zi1, zi2, zi3, zi4, zn6, zn7, zn8, zn9, envFd, p5, p6, p7, p8, p9, p10, hk, h4, h5])
        exact hQ _ (h.keep rfl (by simp [lk]) (by simp [lk]) (by simp [lk]) (by simp [lk]) (by simp [lk]) (by simp [lk]))
  · rw [show fcC x y f g = [⟨clsN (relB f g), 9, x.name, f.number⟩] by simp [fcC, hk]] at hQ
    (simp -implicitDefEqProofs +contextual (maxSteps := 8000000) only [go_sem, ↓reduceIte, zn0, zn1, zn2, zn3, zn4, reduceCtorEq, zn5, zi0, zi1, zi2, zi3, zi4, zn6, zn7, zn8, zn9, envFd, p5, p6, p7, p8, p9, p10, hk, g_evolve_class, hrl, i_evolve_Wider, i_evolve_class, i_evolve_relabels])
    refine vcEx_mk (fun r σ' => r = .tup [] ∧ σ' = addAll s.σ 0 v (tvT ta) (tvT tb) (l ++ cs) [⟨clsN (relB f g), 9, x.name, f.number⟩]) (fadd_gc (clsN (relB f g)) 9 x f (by decide) h.k82 h.out hsz) ?_
    rintro r σ' ⟨rfl, rfl⟩
    (simp -implicitDefEqProofs +contextual (maxSteps := 8000000) only [go_sem, ↓reduceIte, zn0, zn1, zn2, zn3, zn4, reduceCtorEq, zn5, zi0, zi1, zi2, zi3, zi4, zn6, zn7, zn8, zn9, envFd])
    exact hQ _ (h.next ho _ rfl (by simp [lk]) (by simp [lk]) (by simp [lk]) (by simp [lk]) (by simp [lk]) (by simp [lk]))
end
def encRs (l : List Rng) : IV := .slice (l.map encRng)
theorem encRs_inj {a b : List Rng} (h : encRs a = encRs b) : a = b := by
  simp only [encRs, IV.slice.injEq] at h
  exact map_inj' encRng_inj h
noncomputable def decRs := decOf encRs
theorem decRs_enc (a) : decRs (encRs a) = some a := decOf_enc encRs_inj a
theorem decRs_enc_inv {x a} (h : decRs x = some a) : x = encRs a := decOf_inv h
def addR (acc : List Rng) (r : Rng) : List Rng := match acc.getLast? with
  | some p => if p.high + 1 = r.low then acc.dropLast ++ [⟨p.low, r.high⟩] else acc ++ [r]
  | none => [r]
def numsF (l : List Rng) : List Rng := l.foldl addR []
theorem numsF_snoc (l : List Rng) (r : Rng) : numsF (l ++ [r]) = addR (numsF l) r := by simp [numsF]
theorem addR_len (acc : List Rng) (r : Rng) : (addR acc r).length ≤ acc.length + 1 := by
  unfold addR
  split
  · split
    · simp
    · simp
  · simp
theorem numsF_len (l : List Rng) : (numsF l).length ≤ l.length := by
  have h : ∀ (l acc : List Rng), (l.foldl addR acc).length ≤ acc.length + l.length := by
    intro l
    induction l with
    | nil => intro acc; simp
    | cons r l ih =>
      intro acc
      have h1 := ih (addR acc r)
      have h2 := addR_len acc r
      simp only [List.foldl_cons, List.length_cons]; omega
  simpa [numsF] using h l []
theorem addR_high {acc : List Rng} {r : Rng} (ha : ∀ p ∈ acc, 1 ≤ p.low ∧ p.high ≤ 536870911 ∧ p.low ≤ p.high) (hr : 1 ≤ r.low ∧ r.high ≤ 536870911 ∧ r.low ≤ r.high) : ∀ p ∈ addR acc r, 1 ≤ p.low ∧ p.high ≤ 536870911 ∧ p.low ≤ p.high := by
  intro p hp
  unfold addR at hp
  split at hp
  · rename_i q hq
    have hqm := ha q (List.mem_of_getLast? hq)
    split at hp
    · rcases List.mem_append.1 hp with h | h
      · exact ha p (List.dropLast_subset _ h)
      · simp only [List.mem_singleton] at h; subst h; dsimp only; omega
    · rcases List.mem_append.1 hp with h | h
      · exact ha p h
      · simp only [List.mem_singleton] at h; subst h; exact hr
  · simp only [List.mem_singleton] at hp; subst hp; exact hr
theorem numsF_high {l : List Rng} (h : ∀ p ∈ l, 1 ≤ p.low ∧ p.high ≤ 536870911 ∧ p.low ≤ p.high) : ∀ p ∈ numsF l, 1 ≤ p.low ∧ p.high ≤ 536870911 ∧ p.low ≤ p.high := by
  have g : ∀ (l acc : List Rng), (∀ p ∈ l, 1 ≤ p.low ∧ p.high ≤ 536870911 ∧ p.low ≤ p.high) → (∀ p ∈ acc, 1 ≤ p.low ∧ p.high ≤ 536870911 ∧ p.low ≤ p.high) → ∀ p ∈ l.foldl addR acc, 1 ≤ p.low ∧ p.high ≤ 536870911 ∧ p.low ≤ p.high := by
    intro l
    induction l with
    | nil => intro acc _ h; exact h
    | cons r l ih =>
      intro acc h1 h2
      exact ih (addR acc r) (fun p hp => h1 p (List.mem_cons_of_mem _ hp)) (addR_high h2 (h1 r (List.mem_cons_self ..)))
  exact g l [] h (fun p hp => by simp at hp)
def HiOk (l : List Rng) : Prop := ∀ p ∈ l, 1 ≤ p.low ∧ p.high ≤ 536870911 ∧ p.low ≤ p.high
theorem RsvOk.hi {l : List Rng} (h : RsvOk l) : HiOk l := by
  intro p hp
  obtain ⟨i, hi⟩ := List.getElem?_of_mem hp
  have := h i p hi
  exact ⟨this.1, this.2.1, this.2.2.1⟩
theorem HiOk.take {l : List Rng} (h : HiOk l) (n : Nat) : HiOk (l.take n) := fun p hp => h p (List.mem_of_mem_take hp)
def NuI (l : List Rng) (n : Nat) (st : St) : Prop := ∃ j v : Nat, lk st.ρ 7 = some (.iv (.slice (l.map encRng))) ∧ lk st.ρ 8 = some (.iv (.int .i64 (l.length : Int))) ∧ lk st.ρ 9 = some (.iv (.int .i64 (j : Int))) ∧ lk st.ρ 3 = some (.lst 1 v) ∧
  lk st.σ 1 = some (v, .list 110 2 ((numsF (l.take j)).map encRng)) ∧ j ≤ l.length ∧ l.length < j + n
theorem flat_rng (l : List Rng) : (flat (l.map encRng)).length = l.length * 2 := by
  induction l with
  | nil => rfl
  | cons a l ih => simp only [flat, List.map_cons, List.flatMap_cons, List.length_append, List.length_cons] at ih ⊢; rw [ih]; simp [encRng, IV.cells]; omega
theorem oneSize_rng (l : List Rng) : oneSize 2 (l.map encRng) = true := by
  induction l with
  | nil => rfl
  | cons a r ih => simp [oneSize, ih, encRng, IV.cells]
theorem evolve_numbers_fc (l : List Rng) (hh : HiOk l) (hl : l.length ≤ 2000000) : FC Tryd.prog i_evolve_numbers [encRs l] (· = encRs (numsF l)) := by
  (refine FC.vc (EnvOk.noneS) F_evolve_numbers T_evolve_numbers L_evolve_numbers ?_; unfold A_evolve_numbers; simp only [args0, zl0, zl1, zl2, zl3, zn1])
  (simp -implicitDefEqProofs +contextual (maxSteps := 8000000) only [go_sem, ↓reduceIte, zn0, zn1, zn2, zn3, zn4, reduceCtorEq, zn5, zi0, zi1, zi2, zi3, zi4, zn6, zn7, zn8, zn9, encRs])
  refine vc_loopN 3 1 110 2 (NuI l) (l.length + 1) (by simp [lk]) ⟨0, 0, by simp [lk], by simp [lk], by simp [lk], by simp [lk, nxt], by simp [lk, upd, nxt, numsF], by omega, by omega⟩ ?_
  rintro n st ⟨j, v, h7, h8, h9, h3, k1, g1, g2⟩
  by_cases hj : j < l.length
  · obtain ⟨r, hr⟩ : ∃ r, l[j]? = some r := ⟨l[j], by simp [hj]⟩
    have hm := get_map (f := encRng) hr
    simp only [encRng] at hm
    have hw := wrap1 hj (by omega)
    have hlt : (j : Int) < (l.length : Int) := by omega
    have et : l.take (j + 1) = l.take j ++ [r] := by rw [List.take_add_one, hr]; rfl
    have hrh := hh r (List.mem_of_getElem? hr)
    have hln := numsF_len (l.take j)
    have hhi := numsF_high (hh.take j)
    rw [List.length_take] at hln
    generalize hacc : numsF (l.take j) = acc at k1 hln hhi
    have hnx : numsF (l.take (j + 1)) = addR acc r := by rw [et, numsF_snoc, hacc]
    have hos : oneSize 2 (acc.map encRng) = true := oneSize_rng acc
    have hcap : (acc.length + 1) * 16 ≤ 140737488355328 := by omega
    rcases List.eq_nil_or_concat acc with hnil | ⟨ini, p, hcon⟩
    · subst hnil
      have hnx2 : numsF (l.take (j + 1)) = [r] := hnx
      rcases hz : lk st.σ 0 with _ | ⟨z0, z1⟩
      all_goals (
        (simp -implicitDefEqProofs +contextual (maxSteps := 8000000) only [go_sem, ↓reduceIte, zn0, zn1, zn2, zn3, zn4, reduceCtorEq, zn5, zi0, zi1, zi2, zi3, zi4, zn6, zn7, zn8, zn9, h7, h8, h9, h3, k1, hj, hlt, hm, hw, hz, forall_eq'])
        exact ⟨n - 1, by omega, j + 1, v + 1, by simp [lk, h7], by simp [lk, h8], by simp [lk], by simp [lk, nxt, lk_upd, k1], by rw [hnx2]; simp [lk_upd, encRng, nxt, k1], by omega, by omega⟩)
    · rw [List.concat_eq_append] at hcon
      have hL : acc.length = ini.length + 1 := by rw [hcon]; simp
      have hp : acc[ini.length]? = some p := by rw [hcon]; simp
      have hmp := get_map (f := encRng) hp
      simp only [encRng] at hmp
      have hpp := hhi p (List.mem_of_getElem? hp)
      have hgt : (0 : Int) < ((ini.length + 1 : Nat) : Int) := by omega
      have hws : IntKind.i64.wrap (((ini.length + 1 : Nat) : Int) - 1) = (ini.length : Int) := by rw [wrap_i64 (by omega) (by omega)]; omega
      have hwh : IntKind.i64.wrap (p.high + 1) = p.high + 1 := wrap_i64 (by omega) (by omega)
      have hfl := flat_rng acc
      have hlast : acc.getLast? = some p := by rw [hcon]; simp
      have hdl : acc.dropLast = ini := by rw [hcon]; simp
      have hwr : IntKind.i64.wrap r.low = r.low := wrap_i64 (by omega) (by omega)
      have hsb2 : ini.length * 2 + 2 ≤ (ini.length + 1) * 2 := by omega
      have hsb : ini.length * 2 + 2 ≤ (flat (acc.map encRng)).length := by omega
      by_cases he : p.high + 1 = r.low
      · have hnx2 : numsF (l.take (j + 1)) = ini ++ [⟨p.low, r.high⟩] := by rw [hnx]; unfold addR; rw [hlast]; simp [he, hdl]
        rcases hz : lk st.σ 0 with _ | ⟨z0, z1⟩
        all_goals (
          (simp -implicitDefEqProofs +contextual (maxSteps := 8000000) only [go_sem, ↓reduceIte, zn0, zn1, zn2, zn3, zn4, reduceCtorEq, zn5, zi0, zi1, zi2, zi3, zi4, zn6, zn7, zn8, zn9, h7, h8, h9, h3, k1, hj, hlt, hm, hw, hz, hL, hmp, hgt, hws, hwh, hfl, hsb, hsb2, hwr, he, forall_eq'])
          refine ⟨n - 1, by omega, j + 1, v, by simp [lk, h7], by simp [lk, h8], by simp [lk], by simp [lk, h3], ?_, by omega, by omega⟩
          rw [hnx2]
          simp only [lk_upd, if_pos]
          rw [hcon]
          simp [encRng, List.set_append])
      · have hnx2 : numsF (l.take (j + 1)) = acc ++ [r] := by rw [hnx]; unfold addR; rw [hlast]; simp [he]
        rcases hz : lk st.σ 0 with _ | ⟨z0, z1⟩
        all_goals (
          (simp -implicitDefEqProofs +contextual (maxSteps := 8000000) only [go_sem, ↓reduceIte, zn0, zn1, zn2, zn3, zn4, reduceCtorEq, zn5, zi0, zi1, zi2, zi3, zi4, zn6, zn7, zn8, zn9, h7, h8, h9, h3, k1, hj, hlt, hm, hw, hz, hL, hmp, hgt, hws, hwh, hfl, hsb, hsb2, hwr, he, hos, hcap, forall_eq'])
          exact ⟨by omega, n - 1, by omega, j + 1, v + 1, by simp [lk, h7], by simp [lk, h8], by simp [lk], by simp [lk, nxt, lk_upd, k1], by rw [hnx2]; simp [lk_upd, encRng, nxt, k1], by omega, by omega⟩)
  · have hlt : ¬ (j : Int) < (l.length : Int) := by omega
    rw [List.take_of_length_le (by omega)] at k1
    (simp -implicitDefEqProofs +contextual (maxSteps := 8000000) only [go_sem, ↓reduceIte, zn0, zn1, zn2, zn3, zn4, reduceCtorEq, zn5, zi0, zi1, zi2, zi3, zi4, zn6, zn7, zn8, zn9, h7, h8, h9, h3, k1, hj, hlt])
def inR (r o : Rng) : Bool := decide (o.low ≤ r.low ∧ r.high ≤ o.high)
def withinB (l m : List Rng) : Bool := l.all fun r => m.any (inR r)
theorem in_gc (r o : Rng) (σ : Slots) (n : Nat) (h : lk σ 0 = some (n, .box [.iv (.int .i64 r.low), .iv (.int .i64 r.high)])) : GC Tryd.prog 97 [.iv (encRng o), .loc 0 n 0] σ (fun x σ' => x = .iv (.bool (inR r o)) ∧ σ' = σ) := by
  refine GC.vc (EnvOk.noneS (P := Tryd.prog)) F_evolve_within_1 T_evolve_within_1 L_evolve_within_1 ?_
  unfold A_evolve_within_1; simp only [args0, zl0, zl1, zl2, zl3, zn1]
  by_cases h1 : o.low ≤ r.low <;> by_cases h2 : r.high ≤ o.high
  all_goals (
    (simp -implicitDefEqProofs +contextual (maxSteps := 8000000) only [go_sem, ↓reduceIte, zn0, zn1, zn2, zn3, zn4, reduceCtorEq, zn5, zi0, zi1, zi2, zi3, zi4, zn6, zn7, zn8, zn9, encRng, h, h1, h2])
    simp [inR, h1, h2])
open Classical in
noncomputable def eqR (l m : List Rng) : Bool := decide (l = m)
def EqI (l m : List Rng) (n : Nat) (st : St) : Prop := ∃ j : Nat, lk st.ρ 0 = some (.iv (.slice (l.map encRng))) ∧ lk st.ρ 1 = some (.iv (.slice (m.map encRng))) ∧ lk st.ρ 12 = some (.iv (.int .i64 (l.length : Int))) ∧ lk st.ρ 13 = some (.iv (.int .i64 (j : Int))) ∧
  l.take j = m.take j ∧ j ≤ l.length ∧ l.length < j + n
theorem Equal_fc (l m : List Rng) (hl : l.length ≤ 2000000) (hm : m.length ≤ 2000000) : FC Tryd.prog i_slices_Equal_api_Range_api_Range [encRs l, encRs m] (· = .bool (eqR l m)) := by
  (refine FC.vc (EnvOk.noneS) F_slices_Equal_api_Range_api_Range T_slices_Equal_api_Range_api_Range L_slices_Equal_api_Range_api_Range ?_; unfold A_slices_Equal_api_Range_api_Range; simp only [args0, zl0, zl1, zl2, zl3, zn1])
  by_cases hn : l.length = m.length
  · have hnI : (l.length : Int) = (m.length : Int) := by omega
    (simp -implicitDefEqProofs +contextual (maxSteps := 8000000) only [go_sem, ↓reduceIte, zn0, zn1, zn2, zn3, zn4, reduceCtorEq, zn5, zi0, zi1, zi2, zi3, zi4, zn6, zn7, zn8, zn9, encRs, hn, hnI])
    refine vc_loop (EqI l m) (l.length + 1) ⟨0, by simp [lk], by simp [lk], by simp [lk, hn], by simp [lk], rfl, by omega, by omega⟩ ?_
    rintro n st ⟨j, h0, h1, h12, h13, he, g1, g2⟩
    by_cases hj : j < l.length
    · obtain ⟨r, hr⟩ : ∃ r, l[j]? = some r := ⟨l[j], by simp [hj]⟩
      obtain ⟨q, hq⟩ : ∃ q, m[j]? = some q := ⟨m[j]'(by omega), by rw [List.getElem?_eq_getElem]⟩
      have hml := get_map (f := encRng) hr
      have hmm := get_map (f := encRng) hq
      simp only [encRng] at hml hmm
      have hw := wrap1 hj (by omega)
      have hlt : (j : Int) < (l.length : Int) := by omega
      have hlt2 : (j : Int) < (m.length : Int) := by omega
      have hj2 : j < m.length := by omega
      by_cases e1 : r.low = q.low
      · by_cases e2 : r.high = q.high
        · (simp -implicitDefEqProofs +contextual (maxSteps := 8000000) only [go_sem, ↓reduceIte, zn0, zn1, zn2, zn3, zn4, reduceCtorEq, zn5, zi0, zi1, zi2, zi3, zi4, zn6, zn7, zn8, zn9, h0, h1, h12, h13, hj, hj2, hlt, hlt2, hml, hmm, hw, e1, e2, eqs, eqAgg, forall_eq'])
          have hrq : r = q := by cases r; cases q; simp at e1 e2; simp [e1, e2]
          exact ⟨n - 1, by omega, j + 1, by simp [lk, h0], by simp [lk, h1], by simp [lk, h12], by simp [lk], by rw [List.take_add_one, List.take_add_one, he, hr, hq, hrq], by omega, by omega⟩
        · have e2b : (r.high == q.high) = false := by simpa using e2
          have : eqR l m = false := by unfold eqR; simp; rintro rfl; rw [hr] at hq; injection hq with hq; subst hq; exact e2 rfl
          (simp -implicitDefEqProofs +contextual (maxSteps := 8000000) only [go_sem, ↓reduceIte, zn0, zn1, zn2, zn3, zn4, reduceCtorEq, zn5, zi0, zi1, zi2, zi3, zi4, zn6, zn7, zn8, zn9, h0, h1, h12, h13, hj, hj2, hlt, hlt2, hml, hmm, hw, e1, e2b, eqs, eqAgg, forall_eq', this])
      · have e1b : (r.low == q.low) = false := by simpa using e1
        have : eqR l m = false := by unfold eqR; simp; rintro rfl; rw [hr] at hq; injection hq with hq; subst hq; exact e1 rfl
        (simp -implicitDefEqProofs +contextual (maxSteps := 8000000) only [go_sem, ↓reduceIte, zn0, zn1, zn2, zn3, zn4, reduceCtorEq, zn5, zi0, zi1, zi2, zi3, zi4, zn6, zn7, zn8, zn9, h0, h1, h12, h13, hj, hj2, hlt, hlt2, hml, hmm, hw, e1b, eqs, eqAgg, forall_eq', this])
    · have hlt : ¬ (j : Int) < (l.length : Int) := by omega
      rw [List.take_of_length_le (by omega), List.take_of_length_le (by omega)] at he
      (simp -implicitDefEqProofs +contextual (maxSteps := 8000000) only [go_sem, ↓reduceIte, zn0, zn1, zn2, zn3, zn4, reduceCtorEq, zn5, zi0, zi1, zi2, zi3, zi4, zn6, zn7, zn8, zn9, h0, h1, h12, h13, hj, hlt])
      simp [eqR, he]
  · have hnI : ¬ (l.length : Int) = (m.length : Int) := by omega
    have : eqR l m = false := by unfold eqR; simp; intro e; exact hn (by rw [e])
    (simp -implicitDefEqProofs +contextual (maxSteps := 8000000) only [go_sem, ↓reduceIte, zn0, zn1, zn2, zn3, zn4, reduceCtorEq, zn5, zi0, zi1, zi2, zi3, zi4, zn6, zn7, zn8, zn9, encRs, hn, hnI, this])
def idxGo (r : Rng) : List Rng → Nat → Int
  | [], _ => -1
  | o :: m, j => if inR r o = true then (j : Int) else idxGo r m (j + 1)
theorem idxGo_any (r : Rng) : ∀ (m : List Rng) (j : Nat), (0 ≤ idxGo r m j ↔ m.any (inR r) = true)
  | [], j => by simp [idxGo]
  | o :: m, j => by
    have := idxGo_any r m (j + 1)
    unfold idxGo
    by_cases h : inR r o = true
    · rw [if_pos h]; simp [h]
    · rw [if_neg h, this]; simp [h]
theorem callOk97 : callOk Tryd.prog 97 = true := by kernel_rfl
theorem callOk106 : callOk Tryd.prog 106 = true := by kernel_rfl
theorem callOk96 : callOk Tryd.prog 96 = true := by kernel_rfl
noncomputable def envIx : Env := { split := true, gr := [(97, fun vs σ Q => GC Tryd.prog 97 vs σ Q)] }
theorem envIx_ok : EnvOk Tryd.prog envIx := EnvOk.noneS.addR callOk97
def inFn (n : Nat) : TV := .fn (.func 97) [] [.loc 0 n 0]
def IxI (r : Rng) (m : List Rng) (k : Nat) (σ : Slots) (n : Nat) (st : St) : Prop := ∃ j : Nat, lk st.ρ 0 = some (.iv (.slice (m.map encRng))) ∧ lk st.ρ 1 = some (inFn k) ∧ lk st.ρ 7 = some (.iv (.int .i64 (m.length : Int))) ∧ lk st.ρ 8 = some (.iv (.int .i64 (j : Int))) ∧ st.σ = σ ∧
  idxGo r m 0 = idxGo r (m.drop j) j ∧ j ≤ m.length ∧ m.length < j + n
theorem IndexFunc_gc (r : Rng) (m : List Rng) (σ : Slots) (k : Nat) (hm : m.length ≤ 2000000) (h : lk σ 0 = some (k, .box [.iv (.int .i64 r.low), .iv (.int .i64 r.high)])) : GC Tryd.prog 106 [.iv (encRs m), inFn k] σ (fun x σ' => x = .iv (.int .i64 (idxGo r m 0)) ∧ σ' = σ) := by
  refine GC.vc envIx_ok F_slices_IndexFunc_api_Range_api_Range T_slices_IndexFunc_api_Range_api_Range L_slices_IndexFunc_api_Range_api_Range ?_
  unfold A_slices_IndexFunc_api_Range_api_Range; simp only [args0, zl0, zl1, zl2, zl3, zn1]
  (simp -implicitDefEqProofs +contextual (maxSteps := 8000000) only [go_sem, ↓reduceIte, zn0, zn1, zn2, zn3, zn4, reduceCtorEq, zn5, zi0, zi1, zi2, zi3, zi4, zn6, zn7, zn8, zn9, encRs, inFn, envIx])
  refine vc_loop (IxI r m k σ) (m.length + 1) ⟨0, by simp [lk], by simp [lk, inFn], by simp [lk], by simp [lk], rfl, rfl, by omega, by omega⟩ ?_
  rintro n ⟨ρ, σ'⟩ ⟨j, h0, h1, h7, h8, hσ, he, g1, g2⟩
  dsimp only at h0 h1 h7 h8 hσ
  subst hσ
  simp only [inFn] at h1
  by_cases hj : j < m.length
  · obtain ⟨o, ho⟩ : ∃ o, m[j]? = some o := ⟨m[j], by simp [hj]⟩
    have hmo := get_map (f := encRng) ho
    simp only [encRng] at hmo
    have hw := wrap1 hj (by omega)
    have hlt : (j : Int) < (m.length : Int) := by omega
    have hdr := drop_at ho
    (simp -implicitDefEqProofs +contextual (maxSteps := 8000000) only [go_sem, ↓reduceIte, zn0, zn1, zn2, zn3, zn4, reduceCtorEq, zn5, zi0, zi1, zi2, zi3, zi4, zn6, zn7, zn8, zn9, envIx, h0, h1, h7, h8, hj, hlt, hmo, forall_eq'])
    refine vcEx_mk (fun x σ'' => x = .iv (.bool (inR r o)) ∧ σ'' = σ') (in_gc r o σ' k h) ?_
    rintro x σ'' ⟨rfl, rfl⟩
    cases hb : inR r o with
    | true =>
      (simp -implicitDefEqProofs +contextual (maxSteps := 8000000) only [go_sem, ↓reduceIte, zn0, zn1, zn2, zn3, zn4, reduceCtorEq, zn5, zi0, zi1, zi2, zi3, zi4, zn6, zn7, zn8, zn9, envIx])
      rw [he, hdr, idxGo, if_pos hb]
    | false =>
      (simp -implicitDefEqProofs +contextual (maxSteps := 8000000) only [go_sem, ↓reduceIte, zn0, zn1, zn2, zn3, zn4, reduceCtorEq, zn5, zi0, zi1, zi2, zi3, zi4, zn6, zn7, zn8, zn9, envIx, h8, hw])
      exact ⟨n - 1, by omega, j + 1, by simp [lk, h0], by simp [lk, h1, inFn], by simp [lk, h7], by simp [lk], rfl, by rw [he, hdr, idxGo, if_neg (by rw [hb]; simp)], by omega, by omega⟩
  · have hlt : ¬ (j : Int) < (m.length : Int) := by omega
    rw [List.drop_of_length_le (by omega)] at he
    (simp -implicitDefEqProofs +contextual (maxSteps := 8000000) only [go_sem, ↓reduceIte, zn0, zn1, zn2, zn3, zn4, reduceCtorEq, zn5, zi0, zi1, zi2, zi3, zi4, zn6, zn7, zn8, zn9, envIx, h0, h1, h7, h8, hj, hlt])
    simp [he, idxGo]
noncomputable def envCf : Env := { split := true, gr := [(106, fun vs σ Q => GC Tryd.prog 106 vs σ Q)] }
theorem envCf_ok : EnvOk Tryd.prog envCf := EnvOk.noneS.addR callOk106
theorem ContainsFunc_gc (r : Rng) (m : List Rng) (σ : Slots) (k : Nat) (hm : m.length ≤ 2000000) (h : lk σ 0 = some (k, .box [.iv (.int .i64 r.low), .iv (.int .i64 r.high)])) : GC Tryd.prog 96 [.iv (encRs m), inFn k] σ (fun x σ' => x = .iv (.bool (m.any (inR r))) ∧ σ' = σ) := by
  refine GC.vc envCf_ok F_slices_ContainsFunc_api_Range_api_Range T_slices_ContainsFunc_api_Range_api_Range L_slices_ContainsFunc_api_Range_api_Range ?_
  unfold A_slices_ContainsFunc_api_Range_api_Range; simp only [args0, zl0, zl1, zl2, zl3, zn1]
  have ha := idxGo_any r m 0
  (simp -implicitDefEqProofs +contextual (maxSteps := 8000000) only [go_sem, ↓reduceIte, zn0, zn1, zn2, zn3, zn4, reduceCtorEq, zn5, zi0, zi1, zi2, zi3, zi4, zn6, zn7, zn8, zn9, envCf, i_slices_IndexFunc_api_Range_api_Range])
  refine vcExD_mk (.iv (.int .i64 (idxGo r m 0))) σ (IndexFunc_gc r m σ k hm h) ?_
  (simp -implicitDefEqProofs +contextual (maxSteps := 8000000) only [go_sem, ↓reduceIte, zn0, zn1, zn2, zn3, zn4, reduceCtorEq, zn5, zi0, zi1, zi2, zi3, zi4, zn6, zn7, zn8, zn9, envCf])
  cases hb : m.any (inR r) with
  | true => rw [hb] at ha; simp [ha]
  | false => rw [hb] at ha; simp at ha; simp; omega
noncomputable def envWn : Env := { split := true, gr := [(96, fun vs σ Q => GC Tryd.prog 96 vs σ Q)] }
theorem envWn_ok : EnvOk Tryd.prog envWn := EnvOk.noneS.addR callOk96
def WiI (l m : List Rng) (n : Nat) (st : St) : Prop := ∃ j : Nat, lk st.ρ 1 = some (.iv (.slice (m.map encRng))) ∧ lk st.ρ 7 = some (.iv (.slice (l.map encRng))) ∧ lk st.ρ 8 = some (.iv (.int .i64 (l.length : Int))) ∧ lk st.ρ 9 = some (.iv (.int .i64 (j : Int))) ∧
  withinB l m = withinB (l.drop j) m ∧ j ≤ l.length ∧ l.length < j + n
theorem evolve_within_fc (l m : List Rng) (hl : l.length ≤ 2000000) (hm : m.length ≤ 2000000) : FC Tryd.prog i_evolve_within [encRs l, encRs m] (· = .bool (withinB l m)) := by
  (refine FC.vc (envWn_ok) F_evolve_within T_evolve_within L_evolve_within ?_; unfold A_evolve_within; simp only [args0, zl0, zl1, zl2, zl3, zn1])
  (simp -implicitDefEqProofs +contextual (maxSteps := 8000000) only [go_sem, ↓reduceIte, zn0, zn1, zn2, zn3, zn4, reduceCtorEq, zn5, zi0, zi1, zi2, zi3, zi4, zn6, zn7, zn8, zn9, encRs, envWn])
  refine vc_loop (WiI l m) (l.length + 1) ⟨0, by simp [lk], by simp [lk], by simp [lk], by simp [lk], rfl, by omega, by omega⟩ ?_
  rintro n st ⟨j, h1, h7, h8, h9, he, g1, g2⟩
  by_cases hj : j < l.length
  · obtain ⟨r, hr⟩ : ∃ r, l[j]? = some r := ⟨l[j], by simp [hj]⟩
    have hmr := get_map (f := encRng) hr
    simp only [encRng] at hmr
    have hw := wrap1 hj (by omega)
    have hlt : (j : Int) < (l.length : Int) := by omega
    have hdr := drop_at hr
    have hall : withinB (l.drop j) m = (m.any (inR r) && withinB (l.drop (j + 1)) m) := by rw [hdr]; simp [withinB]
    (simp -implicitDefEqProofs +contextual (maxSteps := 8000000) only [go_sem, ↓reduceIte, zn0, zn1, zn2, zn3, zn4, reduceCtorEq, zn5, zi0, zi1, zi2, zi3, zi4, zn6, zn7, zn8, zn9, envWn, h1, h7, h8, h9, hj, hlt, hmr, i_slices_ContainsFunc_api_Range_api_Range, forall_eq'])
    refine vcExD_mk (.iv (.bool (m.any (inR r)))) _ (ContainsFunc_gc r m _ _ hm (by simp [lk_upd])) ?_
    cases hb : m.any (inR r) with
    | true =>
      (simp -implicitDefEqProofs +contextual (maxSteps := 8000000) only [go_sem, ↓reduceIte, zn0, zn1, zn2, zn3, zn4, reduceCtorEq, zn5, zi0, zi1, zi2, zi3, zi4, zn6, zn7, zn8, zn9, envWn, h9, hw])
      exact ⟨n - 1, by omega, j + 1, by simp [lk, h1], by simp [lk, h7], by simp [lk, h8], by simp [lk], by rw [he, hall, hb]; simp, by omega, by omega⟩
    | false =>
      (simp -implicitDefEqProofs +contextual (maxSteps := 8000000) only [go_sem, ↓reduceIte, zn0, zn1, zn2, zn3, zn4, reduceCtorEq, zn5, zi0, zi1, zi2, zi3, zi4, zn6, zn7, zn8, zn9, envWn])
      rw [he, hall, hb]; simp
  · have hlt : ¬ (j : Int) < (l.length : Int) := by omega
    rw [List.drop_of_length_le (by omega)] at he
    (simp -implicitDefEqProofs +contextual (maxSteps := 8000000) only [go_sem, ↓reduceIte, zn0, zn1, zn2, zn3, zn4, reduceCtorEq, zn5, zi0, zi1, zi2, zi3, zi4, zn6, zn7, zn8, zn9, envWn, h1, h7, h8, h9, hj, hlt])
    rw [he]; simp [withinB]
end Go.Proofs.YtmdkcapbahjipaaDoor.Ag
namespace Go.Proofs.YtmdkcapbahjipaaDoor.Ag
open Classical
noncomputable def g_evolve_numbers : List IV → Option IV
  | [l_] => (match decRs l_ with
    | some l => if HiOk l ∧ l.length ≤ 2000000 then some (encRs (numsF l)) else none
    | none => none)
  | _ => none
theorem g_evolve_numbers_is (l : List Rng) : g_evolve_numbers [encRs l] = if HiOk l ∧ l.length ≤ 2000000 then some (encRs (numsF l)) else none := by
  simp only [g_evolve_numbers, decRs_enc]
theorem g_evolve_numbers_ok : ∀ xs r, g_evolve_numbers xs = some r → FC Tryd.prog i_evolve_numbers xs (· = r) := by
  intro xs r h
  unfold g_evolve_numbers at h
  split at h
  · rename_i l_
    split at h
    · rename_i l hl
      split at h
      · rename_i hpre
        injection h with h; subst h
        have := decRs_enc_inv hl; subst this
        exact evolve_numbers_fc l hpre.1 hpre.2
      · cases h
    · cases h
  · cases h

noncomputable def g_slices_Equal_api_Range_api_Range : List IV → Option IV
  | [l_, m_] => (match decRs l_ with
    | some l => (match decRs m_ with
    | some m => if l.length ≤ 2000000 ∧ m.length ≤ 2000000 then some (.bool (eqR l m)) else none
    | none => none)
    | none => none)
  | _ => none
theorem g_slices_Equal_api_Range_api_Range_is (l : List Rng) (m : List Rng) : g_slices_Equal_api_Range_api_Range [encRs l, encRs m] = if l.length ≤ 2000000 ∧ m.length ≤ 2000000 then some (.bool (eqR l m)) else none := by
  simp only [g_slices_Equal_api_Range_api_Range, decRs_enc, decRs_enc]
theorem g_slices_Equal_api_Range_api_Range_ok : ∀ xs r, g_slices_Equal_api_Range_api_Range xs = some r → FC Tryd.prog i_slices_Equal_api_Range_api_Range xs (· = r) := by
  intro xs r h
  unfold g_slices_Equal_api_Range_api_Range at h
  split at h
  · rename_i l_ m_
    split at h
    · rename_i l hl
      split at h
      · rename_i m hm
        split at h
        · rename_i hpre
          injection h with h; subst h
          have := decRs_enc_inv hl; subst this
          have := decRs_enc_inv hm; subst this
          exact Equal_fc l m hpre.1 hpre.2
        · cases h
      · cases h
    · cases h
  · cases h

noncomputable def g_evolve_within : List IV → Option IV
  | [l_, m_] => (match decRs l_ with
    | some l => (match decRs m_ with
    | some m => if l.length ≤ 2000000 ∧ m.length ≤ 2000000 then some (.bool (withinB l m)) else none
    | none => none)
    | none => none)
  | _ => none
theorem g_evolve_within_is (l : List Rng) (m : List Rng) : g_evolve_within [encRs l, encRs m] = if l.length ≤ 2000000 ∧ m.length ≤ 2000000 then some (.bool (withinB l m)) else none := by
  simp only [g_evolve_within, decRs_enc, decRs_enc]
theorem g_evolve_within_ok : ∀ xs r, g_evolve_within xs = some r → FC Tryd.prog i_evolve_within xs (· = r) := by
  intro xs r h
  unfold g_evolve_within at h
  split at h
  · rename_i l_ m_
    split at h
    · rename_i l hl
      split at h
      · rename_i m hm
        split at h
        · rename_i hpre
          injection h with h; subst h
          have := decRs_enc_inv hl; subst this
          have := decRs_enc_inv hm; subst this
          exact evolve_within_fc l m hpre.1 hpre.2
        · cases h
      · cases h
    · cases h
  · cases h

end Go.Proofs.YtmdkcapbahjipaaDoor.Ag
