/- A field by its number, in a list of rising numbers. -/
import Derived.Test.YtmdkcapbahjipaaDoorTM1
import Derived.Test.YtmdkcapbahjipaaDoorTAirE
set_option linter.unusedVariables false
set_option linter.unusedSimpArgs false
set_option maxRecDepth 100000
set_option maxHeartbeats 4000000
open List renaming map_cons → zl0, map_nil → zl1, zipIdx_cons → zl2, zipIdx_nil → zl3
open Nat renaming reduceEqDiff → zn0, reduceAdd → zn1, reduceSub → zn2, reduceLeDiff → zn3, reduceMul → zn4, reduceBEq → zn5, reducePow → zn6, reduceLT → zn7, reduceDiv → zn8, reduceMod → zn9
open Int renaming reduceLT → zi0, reduceLE → zi1, reduceNeg → zi2, reduceEq → zi3, reduceToNat → zi4
namespace Go.Proofs.YtmdkcapbahjipaaDoor.Ag
attribute [-go_sem] Int.not_lt Int.not_le
def zft : FT := ⟨⟨#[]⟩, 0, 0, 0, 0, 0, 0⟩
def Rising (l : List FT) : Prop := ∀ (i j : Nat) (f g : FT), i < j → l[i]? = some f → l[j]? = some g → f.number < g.number
def atF (l : List FT) (n : Int) : Option FT := l.find? fun f => decide (f.number = n)
def encAt : Option FT → IV
  | some f => .tup [encFT f, .bool true]
  | none => .tup [encFT zft, .bool false]
theorem atF_some {l : List FT} {n : Int} {i : Nat} {f : FT} (hr : Rising l) (hf : l[i]? = some f) (hn : f.number = n) : atF l n = some f := by
  have e : l = l.take i ++ f :: l.drop (i + 1) := by rw [← drop_at hf, List.take_append_drop]
  unfold atF
  rw [e, List.find?_append]
  have h0 : (l.take i).find? (fun f => decide (f.number = n)) = none := by
    rw [List.find?_eq_none]
    intro g hg
    obtain ⟨j, hj⟩ := List.getElem?_of_mem hg
    rw [List.getElem?_take] at hj
    split at hj
    · rename_i hji
      have := hr j i g f hji hj hf
      simp; omega
    · cases hj
  rw [h0, List.find?_cons]
  simp [hn]
theorem atF_none {l : List FT} {n : Int} (h : ∀ (k : Nat) (f : FT), l[k]? = some f → f.number ≠ n) : atF l n = none := by
  unfold atF
  rw [List.find?_eq_none]
  intro g hg
  obtain ⟨j, hj⟩ := List.getElem?_of_mem hg
  simpa using h j g hj
def AtI (x : Ty) (n : Int) (m : Nat) (st : St) : Prop := ∃ lo hi v : Nat, lk st.ρ 1 = some (.iv (.int .i64 n)) ∧ lk st.ρ 2 = some (.iv (.ref (encTy x))) ∧ lk st.ρ 4 = some (.loc 0 v 0) ∧ lk st.ρ 6 = some (.iv (.int .i64 (lo : Int))) ∧ lk st.ρ 7 = some (.iv (.int .i64 (hi : Int))) ∧
  lk st.σ 0 = some (v, .box [.iv (.str ⟨#[]⟩), .iv (.int .i64 0), .iv (.int .i64 0), .iv (.int .i64 0), .iv (.int .i64 0), .iv (.int .i64 0), .iv (.int .i64 0)]) ∧
  lo ≤ hi ∧ hi ≤ x.fields.length ∧ hi < lo + m ∧ (∀ (k : Nat) (f : FT), k < lo → x.fields[k]? = some f → f.number < n) ∧ (∀ (k : Nat) (f : FT), hi ≤ k → x.fields[k]? = some f → n ≤ f.number)
theorem quo2 (a b : Nat) : Int.tdiv (((a + b : Nat) : Int)) 2 = (((a + b) / 2 : Nat) : Int) := by
  rw [Int.tdiv_eq_ediv_of_nonneg (by omega)]; omega
theorem At_fc (x : Ty) (n : Int) (hr : Rising x.fields) (hl : x.fields.length ≤ 2000000) : FC Tryd.prog i_table_At [encTy x, .int .i64 n] (· = encAt (atF x.fields n)) := by
  (refine FC.vc (EnvOk.noneS) F_table_At T_table_At L_table_At ?_; unfold A_table_At; simp only [args0, zl0, zl1, zl2, zl3, zn1])
  (simp -implicitDefEqProofs +contextual (maxSteps := 8000000) only [go_sem, ↓reduceIte, zn0, zn1, zn2, zn3, zn4, reduceCtorEq, zn5, zi0, zi1, zi2, zi3, zi4, zn6, zn7, zn8, zn9, encTy])
  refine vc_loop (AtI x n) (x.fields.length + 1) ⟨0, x.fields.length, 0, by simp [lk], by simp [lk, encTy], by simp [lk], by simp [lk], by simp [lk], by simp [lk, upd], by omega, by omega, by omega, fun k f hk => absurd hk (by omega), fun k f hk hf => absurd (List.getElem?_eq_some_iff.1 hf).1 (by omega)⟩ ?_
  rintro m st ⟨lo, hi, v, h1, h2, h4, h6, h7, k0, g1, g2, g3, g4, g5⟩
  simp only [encTy] at h2
  by_cases hlh : lo < hi
  · have hlt : (lo : Int) < (hi : Int) := by omega
    have hmid : (lo + hi) / 2 < x.fields.length := by omega
    obtain ⟨f, hf⟩ : ∃ f, x.fields[(lo + hi) / 2]? = some f := ⟨x.fields[(lo + hi) / 2], by simp [hmid]⟩
    have hm := get_map (f := encFT) hf
    simp only [encFT] at hm
    have hw1 : IntKind.i64.wrap ((lo : Int) + (hi : Int)) = ((lo + hi : Nat) : Int) := by rw [wrap_i64 (by omega) (by omega)]; omega
    have hq := quo2 lo hi
    have hwq : IntKind.i64.wrap ((((lo + hi) / 2 : Nat) : Int)) = (((lo + hi) / 2 : Nat) : Int) := wrap_i64 (by omega) (by omega)
    have hw2 : IntKind.i64.wrap ((((lo + hi) / 2 : Nat) : Int) + 1) = (((lo + hi) / 2 + 1 : Nat) : Int) := by rw [wrap_i64 (by omega) (by omega)]; omega
    have hmi : (((lo + hi) / 2 : Nat) : Int) < (x.fields.length : Int) := by omega
    by_cases e1 : f.number < n
    · (simp -implicitDefEqProofs +contextual (maxSteps := 8000000) only [go_sem, ↓reduceIte, zn0, zn1, zn2, zn3, zn4, reduceCtorEq, zn5, zi0, zi1, zi2, zi3, zi4, zn6, zn7, zn8, zn9, encTy, h1, h2, h4, h6, h7, k0, hlh, hlt, hmid, hmi, hm, hw1, hq, hwq, hw2, e1, forall_eq'])
      exact ⟨m - 1, by omega, (lo + hi) / 2 + 1, hi, v, by simp [lk, h1], by simp [lk, h2, encTy], by simp [lk, h4], by simp [lk], by simp [lk, h7], by simp [k0], by omega, by omega, by omega, fun k g hk hg => by
        by_cases e : k = (lo + hi) / 2
        · subst e; rw [hf] at hg; injection hg with hg; subst hg; exact e1
        · have := hr k _ g f (by omega) hg hf; omega, g5⟩
    · (simp -implicitDefEqProofs +contextual (maxSteps := 8000000) only [go_sem, ↓reduceIte, zn0, zn1, zn2, zn3, zn4, reduceCtorEq, zn5, zi0, zi1, zi2, zi3, zi4, zn6, zn7, zn8, zn9, encTy, h1, h2, h4, h6, h7, k0, hlh, hlt, hmid, hmi, hm, hw1, hq, hwq, hw2, e1, forall_eq'])
      exact ⟨m - 1, by omega, lo, (lo + hi) / 2, v, by simp [lk, h1], by simp [lk, h2, encTy], by simp [lk, h4], by simp [lk, h6], by simp [lk], by simp [k0], by omega, by omega, by omega, g4, fun k g hk hg => by
        by_cases e : k = (lo + hi) / 2
        · subst e; rw [hf] at hg; injection hg with hg; subst hg; omega
        · have := hr _ k f g (by omega) hf hg; omega⟩
  · have hlt : ¬ (lo : Int) < (hi : Int) := by omega
    obtain rfl : lo = hi := by omega
    by_cases e0 : lo = x.fields.length
    · have e0' : (lo : Int) = (x.fields.length : Int) := by omega
      have hnone : atF x.fields n = none := atF_none fun k f hf => by have := g4 k f (by rw [e0]; exact (List.getElem?_eq_some_iff.1 hf).1) hf; omega
      (simp -implicitDefEqProofs +contextual (maxSteps := 8000000) only [go_sem, ↓reduceIte, zn0, zn1, zn2, zn3, zn4, reduceCtorEq, zn5, zi0, zi1, zi2, zi3, zi4, zn6, zn7, zn8, zn9, encTy, h1, h2, h4, h6, h7, k0, hlh, hlt, e0, e0', hnone, Nat.lt_irrefl, Int.lt_irrefl])
      simp [encAt, encFT, zft]
    · have hlo : lo < x.fields.length := by omega
      have hlo2 : (lo : Int) < (x.fields.length : Int) := by omega
      obtain ⟨f, hf⟩ : ∃ f, x.fields[lo]? = some f := ⟨x.fields[lo], by simp [hlo]⟩
      have hm := get_map (f := encFT) hf
      simp only [encFT] at hm
      by_cases e1 : f.number = n
      · have hsome := atF_some hr hf e1
        (simp -implicitDefEqProofs +contextual (maxSteps := 8000000) only [go_sem, ↓reduceIte, zn0, zn1, zn2, zn3, zn4, reduceCtorEq, zn5, zi0, zi1, zi2, zi3, zi4, zn6, zn7, zn8, zn9, encTy, h1, h2, h4, h6, h7, k0, hlh, hlt, e0, hlo, Nat.lt_irrefl, Int.lt_irrefl, hlo2, hm, e1, hsome, forall_eq'])
        simp [encAt, encFT, e1]
      · have hnone : atF x.fields n = none := atF_none fun k g hg => by
          rcases Nat.lt_trichotomy k lo with h | h | h
          · have := g4 k g h hg; omega
          · subst h; rw [hf] at hg; injection hg with hg; subst hg; exact e1
          · have h5 := hr lo k f g h hf hg
            have h6 := g5 lo f (Nat.le_refl _) hf
            omega
        (simp -implicitDefEqProofs +contextual (maxSteps := 8000000) only [go_sem, ↓reduceIte, zn0, zn1, zn2, zn3, zn4, reduceCtorEq, zn5, zi0, zi1, zi2, zi3, zi4, zn6, zn7, zn8, zn9, encTy, h1, h2, h4, h6, h7, k0, hlh, hlt, e0, hlo, Nat.lt_irrefl, Int.lt_irrefl, hlo2, hm, e1, hnone, forall_eq'])
        simp [encAt, encFT, zft]
theorem msg_rising {t : List Ty} {x : Ty} (h : MsgOk t x) : Rising x.fields := by
  have hf := h.2.2.2.2.2.2.1
  have step : ∀ (d i : Nat) (f g : FT), x.fields[i]? = some f → x.fields[i + d + 1]? = some g → f.number < g.number := by
    intro d
    induction d with
    | zero =>
      intro i f g h1 h2
      exact (hf (i + 1) g h2).2.2.2.2 f (by omega) (by simpa using h1)
    | succ d ih =>
      intro i f g h1 h2
      have hlt := (List.getElem?_eq_some_iff.1 h2).1
      obtain ⟨m, hm⟩ : ∃ m, x.fields[i + d + 1]? = some m := ⟨x.fields[i + d + 1]'(by omega), by rw [List.getElem?_eq_getElem]⟩
      have h3 := ih i f m h1 hm
      have h4 := (hf (i + (d + 1) + 1) g h2).2.2.2.2 m (by omega) (by rw [show i + (d + 1) + 1 - 1 = i + d + 1 by omega]; exact hm)
      omega
  intro i j f g hij h1 h2
  obtain ⟨d, rfl⟩ : ∃ d, j = i + d + 1 := ⟨j - i - 1, by omega⟩
  exact step d i f g h1 h2
open Classical
noncomputable def g_table_At : List IV → Option IV
  | [x_, .int .i64 n] => (match decTy x_ with
    | some x => if Rising x.fields ∧ x.fields.length ≤ 2000000 then some (encAt (atF x.fields n)) else none
    | none => none)
  | _ => none
theorem g_table_At_is (x : Ty) (n : Int) : g_table_At [encTy x, .int .i64 n] = if Rising x.fields ∧ x.fields.length ≤ 2000000 then some (encAt (atF x.fields n)) else none := by
  simp only [g_table_At, decTy_enc]
theorem g_table_At_ok : ∀ xs r, g_table_At xs = some r → FC Tryd.prog i_table_At xs (· = r) := by
  intro xs r h
  unfold g_table_At at h
  split at h
  · rename_i x_ n
    split at h
    · rename_i x hx
      split at h
      · rename_i hpre
        injection h with h; subst h
        have := decTy_enc_inv hx; subst this
        exact At_fc x n hpre.1 hpre.2
      · cases h
    · cases h
  · cases h

end Go.Proofs.YtmdkcapbahjipaaDoor.Ag
set_option maxHeartbeats 8000000
namespace Go.Proofs.YtmdkcapbahjipaaDoor.Ag
theorem find_at {α : Type} {p : α → Bool} {l : List α} {i : Nat} {y : α} (hb : ∀ z ∈ l.take i, p z = false) (hy : l[i]? = some y) (he : p y = true) : l.find? p = some y := by
  obtain ⟨h1, h2⟩ := List.getElem?_eq_some_iff.1 hy
  rw [← List.take_append_drop i l, List.find?_append, List.find?_eq_none.2 (fun z hz => by simp [hb z hz]), List.drop_eq_getElem_cons h1, h2]
  simp [he]
theorem find_no {α : Type} {p : α → Bool} {l : List α} (hb : ∀ z ∈ l, p z = false) : l.find? p = none := List.find?_eq_none.2 fun z hz => by simp [hb z hz]
theorem take_all2 {α : Type} {p : α → Bool} {l : List α} {i : Nat} {y : α} (hb : ∀ z ∈ l.take i, p z = false) (hy : l[i]? = some y) (he : p y = false) : ∀ z ∈ l.take (i + 1), p z = false := by
  rw [List.take_add_one, hy]
  intro z hz
  rcases List.mem_append.1 hz with hz | hz
  · exact hb z hz
  · simp at hz; subst hz; exact he
open Classical
end Go.Proofs.YtmdkcapbahjipaaDoor.Ag
namespace Go.Proofs.YtmdkcapbahjipaaDoor.Ag
noncomputable def envNoS : Env := { split := true }
theorem envNoS_ok : EnvOk Tryd.prog envNoS := EnvOk.noneS
def syF (l : List Sym) (n : Int) : Option Sym := l.find? fun s => decide (s.num = n)
def orS (o : Option Sym) (a b : IV) : IV := match o with
  | some s => .tup [.str s.name, a]
  | none => .tup [.str ⟨#[]⟩, b]
def SaI (x : Ty) (num : Int) (n : Nat) (st : St) : Prop := ∃ i : Nat, lk st.ρ 1 = some (.iv (.int .i64 num)) ∧ lk st.ρ 9 = some (.iv (.slice (x.syms.map encSym))) ∧ lk st.ρ 10 = some (.iv (.int .i64 (x.syms.length : Int))) ∧ lk st.ρ 11 = some (.iv (.int .i64 (i : Int))) ∧
  i ≤ x.syms.length ∧ x.syms.length < i + n ∧ ∀ z ∈ x.syms.take i, decide (z.num = num) = false
theorem SymbolAt_fc (x : Ty) (num : Int) (hl : x.syms.length ≤ 2000000) : FC Tryd.prog i_table_SymbolAt [encTy x, .int .i64 num] (· = orS (syF x.syms num) (.bool true) (.bool false)) := by
  (refine FC.vc (envNoS_ok) F_table_SymbolAt T_table_SymbolAt L_table_SymbolAt ?_; unfold A_table_SymbolAt; simp only [args0, zl0, zl1, zl2, zl3, zn1])
  (simp -implicitDefEqProofs +contextual (maxSteps := 8000000) only [go_sem, ↓reduceIte, zn0, zn1, zn2, zn3, zn4, reduceCtorEq, zn5, zi0, zi1, zi2, zi3, zi4, zn6, zn7, zn8, zn9, encTy, envNoS])
  refine vc_loop (SaI x num) (x.syms.length + 1) ⟨0, by simp [lk], by simp [lk], by simp [lk], by simp [lk], by omega, by omega, by simp⟩ ?_
  rintro n st ⟨j, h1, h9, h10, h11, g1, g2, g3⟩
  by_cases hj : j < x.syms.length
  · obtain ⟨f, hf⟩ : ∃ f, x.syms[j]? = some f := ⟨x.syms[j], by simp [hj]⟩
    have hmf := get_map (f := encSym) hf
    simp only [encSym] at hmf
    have hw := wrap1 hj (by omega)
    have hlt : (j : Int) < (x.syms.length : Int) := by omega
    by_cases e1 : f.num = num
    · have hs : syF x.syms num = some f := find_at g3 hf (by simpa using e1)
      rw [hs]
      unfold orS
      rcases hz : lk st.σ 0 with _ | ⟨v0, it0⟩
      all_goals
        (simp -implicitDefEqProofs +contextual (maxSteps := 8000000) only [go_sem, ↓reduceIte, zn0, zn1, zn2, zn3, zn4, reduceCtorEq, zn5, zi0, zi1, zi2, zi3, zi4, zn6, zn7, zn8, zn9, envNoS, h1, h9, h10, h11, hj, hlt, hmf, hw, hz, e1, forall_eq'])
    · rcases hz : lk st.σ 0 with _ | ⟨v0, it0⟩
      all_goals
        (simp -implicitDefEqProofs +contextual (maxSteps := 8000000) only [go_sem, ↓reduceIte, zn0, zn1, zn2, zn3, zn4, reduceCtorEq, zn5, zi0, zi1, zi2, zi3, zi4, zn6, zn7, zn8, zn9, envNoS, h1, h9, h10, h11, hj, hlt, hmf, hw, hz, e1, forall_eq'])
        exact ⟨n - 1, by omega, j + 1, by simp [lk, h1], by simp [lk, h9], by simp [lk, h10], by simp [lk], by omega, by omega, take_all2 g3 hf (by simpa using e1)⟩
  · have hlt : ¬ (j : Int) < (x.syms.length : Int) := by omega
    rw [List.take_of_length_le (by omega)] at g3
    have hs : syF x.syms num = none := find_no g3
    rw [hs]
    unfold orS
    (simp -implicitDefEqProofs +contextual (maxSteps := 8000000) only [go_sem, ↓reduceIte, zn0, zn1, zn2, zn3, zn4, reduceCtorEq, zn5, zi0, zi1, zi2, zi3, zi4, zn6, zn7, zn8, zn9, envNoS, h1, h9, h10, h11, hj, hlt])
def widerB (a b : Int) : Bool := decide (a = 1 ∧ (b = 2 ∨ b = 3 ∨ b = 4 ∨ b = 5)) || decide (a = 2 ∧ b = 3) || decide (a = 4 ∧ b = 5) || decide (a = 6 ∧ b = 7) || decide (a = 14 ∧ b = 15) || decide (a = 16 ∧ (b = 2 ∨ b = 3))
theorem evolve_Wider_fc (a b : Int) : FC Tryd.prog i_evolve_Wider [.int .i64 a, .int .i64 b] (· = .bool (widerB a b)) := by
  (refine FC.vc (EnvOk.noneS) F_evolve_Wider T_evolve_Wider L_evolve_Wider ?_; unfold A_evolve_Wider; simp only [args0, zl0, zl1, zl2, zl3, zn1])
  (simp -implicitDefEqProofs +contextual (maxSteps := 8000000) only [go_sem, ↓reduceIte, zn0, zn1, zn2, zn3, zn4, reduceCtorEq, zn5, zi0, zi1, zi2, zi3, zi4, zn6, zn7, zn8, zn9, Int.le_refl])
  (repeat' (first | (refine And.intro ?_ ?_) | (intro _)))
  all_goals grind (splits := 30) [widerB]
theorem ref18_Wider_fc (a b : Int) : FC Tryd.prog i_cartoucheref18_Wider [.int .i64 a, .int .i64 b] (· = .bool (widerB a b)) := by
  (refine FC.vc (EnvOk.noneS) F_cartoucheref18_Wider T_cartoucheref18_Wider L_cartoucheref18_Wider ?_; unfold A_cartoucheref18_Wider; simp only [args0, zl0, zl1, zl2, zl3, zn1])
  (simp -implicitDefEqProofs +contextual (maxSteps := 8000000) only [go_sem, ↓reduceIte, zn0, zn1, zn2, zn3, zn4, reduceCtorEq, zn5, zi0, zi1, zi2, zi3, zi4, zn6, zn7, zn8, zn9, Int.le_refl])
  (repeat' (first | (refine And.intro ?_ ?_) | (intro _)))
  all_goals grind (splits := 30) [widerB]
def hasN (x : Ty) (n : Int) : Bool := x.fields.any fun f => decide (f.number = n)
def newF (x : Ty) (l : List FT) : List Int := (l.filter fun g => !hasN x g.number).map FT.number
theorem newF_snoc (x : Ty) (l : List FT) (g : FT) : newF x (l ++ [g]) = if hasN x g.number then newF x l else newF x l ++ [g.number] := by
  unfold newF
  rw [List.filter_append, List.map_append]
  by_cases h : hasN x g.number = true
  · rw [if_pos h]; simp [h]
  · rw [if_neg h]; simp [h]
theorem newF_len (x : Ty) (l : List FT) : (newF x l).length ≤ l.length := by
  unfold newF; rw [List.length_map]; exact List.length_filter_le _ _
def encI (n : Int) : IV := .int .i64 n
def NfA (x y : Ty) (n : Nat) (st : St) : Prop := ∃ k v : Nat, lk st.ρ 2 = some (.iv (.ref (encTy x))) ∧ lk st.ρ 3 = some (.iv (.ref (encTy y))) ∧ lk st.ρ 5 = some (.lst 0 v) ∧ lk st.ρ 6 = some (.iv (.int .i64 (k : Int))) ∧ lk st.σ 0 = some (v, .list 3 1 ((newF x (y.fields.take k)).map encI)) ∧ k ≤ y.fields.length ∧ y.fields.length < k + n
def NfB (x y : Ty) (k : Nat) (g : FT) (n : Nat) (st : St) : Prop := ∃ j v : Nat, lk st.ρ 2 = some (.iv (.ref (encTy x))) ∧ lk st.ρ 3 = some (.iv (.ref (encTy y))) ∧ lk st.ρ 5 = some (.lst 0 v) ∧ lk st.ρ 6 = some (.iv (.int .i64 (k : Int))) ∧ lk st.ρ 7 = some (.iv (.bool ((x.fields.take j).any fun f => decide (f.number = g.number)))) ∧ lk st.ρ 8 = some (.iv (.int .i64 (j : Int))) ∧
  lk st.σ 0 = some (v, .list 3 1 ((newF x (y.fields.take k)).map encI)) ∧ j ≤ x.fields.length ∧ x.fields.length < j + n
theorem any_take2 {α : Type} {p : α → Bool} {l : List α} {j : Nat} {a : α} (h : l[j]? = some a) : (l.take (j + 1)).any p = ((l.take j).any p || p a) := by
  rw [List.take_add_one, h]; simp [List.any_append]
theorem ref18_fresh_fc (x y : Ty) (hx : x.fields.length ≤ 2000000) (hy : y.fields.length ≤ 2000000) : FC Tryd.prog i_cartoucheref18_fresh [encTy x, encTy y] (· = .slice ((newF x y.fields).map encI)) := by
  (refine FC.vc (EnvOk.noneS) F_cartoucheref18_fresh T_cartoucheref18_fresh L_cartoucheref18_fresh ?_; unfold A_cartoucheref18_fresh; simp only [args0, zl0, zl1, zl2, zl3, zn1])
  (simp -implicitDefEqProofs +contextual (maxSteps := 8000000) only [go_sem, ↓reduceIte, zn0, zn1, zn2, zn3, zn4, reduceCtorEq, zn5, zi0, zi1, zi2, zi3, zi4, zn6, zn7, zn8, zn9, encTy])
  refine vc_loopN 5 0 3 1 (NfA x y) (y.fields.length + 1) (by simp [lk]) ⟨0, 0, by simp [lk, encTy], by simp [lk, encTy], by simp [lk, nxt], by simp [lk], by simp [lk, upd, nxt, newF], by omega, by omega⟩ ?_
  rintro n st ⟨k, v, h2, h3, h5, h6, k0, g1, g2⟩
  simp only [encTy] at h2 h3
  have hln := newF_len x (y.fields.take k)
  rw [List.length_take] at hln
  by_cases hk : k < y.fields.length
  · obtain ⟨g, hg⟩ : ∃ g, y.fields[k]? = some g := ⟨y.fields[k], by simp [hk]⟩
    have hmg := get_map (f := encFT) hg
    simp only [encFT] at hmg
    have hw := wrap1 hk (by omega)
    have hlt : (k : Int) < (y.fields.length : Int) := by omega
    have et : y.fields.take (k + 1) = y.fields.take k ++ [g] := by rw [List.take_add_one, hg]; rfl
    (simp -implicitDefEqProofs +contextual (maxSteps := 8000000) only [go_sem, ↓reduceIte, zn0, zn1, zn2, zn3, zn4, reduceCtorEq, zn5, zi0, zi1, zi2, zi3, zi4, zn6, zn7, zn8, zn9, encTy, h2, h3, h5, h6, k0, hk, hlt])
    refine vc_loop (NfB x y k g) (x.fields.length + 1) ⟨0, v, by simp [lk, h2, encTy], by simp [lk, h3, encTy], by simp [lk, h5], by simp [lk, h6], by simp [lk], by simp [lk], by simp [k0], by omega, by omega⟩ ?_
    clear h2 h3 h5 h6 k0
    rintro m st ⟨j, v, h2, h3, h5, h6, h7, h8, k0, f1, f2⟩
    simp only [encTy] at h2 h3
    by_cases hj : j < x.fields.length
    · obtain ⟨f, hf⟩ : ∃ f, x.fields[j]? = some f := ⟨x.fields[j], by simp [hj]⟩
      have hmf := get_map (f := encFT) hf
      simp only [encFT] at hmf
      have hwj := wrap1 hj (by omega)
      have hlj : (j : Int) < (x.fields.length : Int) := by omega
      have hap := any_take2 (p := fun f : FT => decide (f.number = g.number)) hf
      generalize hb : ((x.fields.take j).any fun f => decide (f.number = g.number)) = b at h7 hap
      cases b with
      | true =>
        (simp -implicitDefEqProofs +contextual (maxSteps := 8000000) only [go_sem, ↓reduceIte, zn0, zn1, zn2, zn3, zn4, reduceCtorEq, zn5, zi0, zi1, zi2, zi3, zi4, zn6, zn7, zn8, zn9, encTy, h2, h3, h5, h6, h7, h8, k0, hj, hlj, hmf, hmg, hwj, hk, hlt, forall_eq'])
        exact ⟨m - 1, by omega, j + 1, v, by simp [lk, h2, encTy], by simp [lk, h3, encTy], by simp [lk, h5], by simp [lk, h6], by rw [hap]; simp [lk], by simp [lk], by simp [k0], by omega, by omega⟩
      | false =>
        (simp -implicitDefEqProofs +contextual (maxSteps := 8000000) only [go_sem, ↓reduceIte, zn0, zn1, zn2, zn3, zn4, reduceCtorEq, zn5, zi0, zi1, zi2, zi3, zi4, zn6, zn7, zn8, zn9, encTy, h2, h3, h5, h6, h7, h8, k0, hj, hlj, hmf, hmg, hwj, hk, hlt, forall_eq'])
        exact ⟨m - 1, by omega, j + 1, v, by simp [lk, h2, encTy], by simp [lk, h3, encTy], by simp [lk, h5], by simp [lk, h6], by rw [hap]; simp [lk], by simp [lk], by simp [k0], by omega, by omega⟩
    · have hlj : ¬ (j : Int) < (x.fields.length : Int) := by omega
      rw [List.take_of_length_le (by omega)] at h7
      have hbd : (x.fields.any fun f => decide (f.number = g.number)) = hasN x g.number := rfl
      rw [hbd] at h7
      have hcap : ((newF x (y.fields.take k)).length + 1) * 8 ≤ 140737488355328 := by omega
      generalize hb : hasN x g.number = b at h7
      cases b with
      | true =>
        (simp -implicitDefEqProofs +contextual (maxSteps := 8000000) only [go_sem, ↓reduceIte, zn0, zn1, zn2, zn3, zn4, reduceCtorEq, zn5, zi0, zi1, zi2, zi3, zi4, zn6, zn7, zn8, zn9, encTy, h2, h3, h5, h6, h7, h8, k0, hj, hlj, hw])
        exact ⟨n - 1, by omega, k + 1, v, by simp [lk, h2, encTy], by simp [lk, h3, encTy], by simp [lk, h5], by simp [lk], by rw [et, newF_snoc, if_pos hb]; simp [k0], by omega, by omega⟩
      | false =>
        (simp -implicitDefEqProofs +contextual (maxSteps := 8000000) only [go_sem, ↓reduceIte, zn0, zn1, zn2, zn3, zn4, reduceCtorEq, zn5, zi0, zi1, zi2, zi3, zi4, zn6, zn7, zn8, zn9, encTy, h2, h3, h5, h6, h7, h8, k0, hj, hlj, hw, hmg, hk, hlt, hcap, forall_eq'])
        exact ⟨n - 1, by omega, k + 1, v + 1, by simp [lk, h2, encTy], by simp [lk, h3, encTy], by simp [lk], by simp [lk], by rw [et, newF_snoc, if_neg (by simp [hb])]; simp [lk_upd, encI], by omega, by omega⟩
  · have hlt : ¬ (k : Int) < (y.fields.length : Int) := by omega
    rw [List.take_of_length_le (by omega)] at k0
    (simp -implicitDefEqProofs +contextual (maxSteps := 8000000) only [go_sem, ↓reduceIte, zn0, zn1, zn2, zn3, zn4, reduceCtorEq, zn5, zi0, zi1, zi2, zi3, zi4, zn6, zn7, zn8, zn9, encTy, h2, h3, h5, h6, k0, hk, hlt])
open Classical
noncomputable def g_cartoucheref18_fresh : List IV → Option IV
  | [x_, y_] => (match decTy x_ with
    | some x => (match decTy y_ with
    | some y => if x.fields.length ≤ 2000000 ∧ y.fields.length ≤ 2000000 then some (.slice ((newF x y.fields).map encI)) else none
    | none => none)
    | none => none)
  | _ => none
theorem g_cartoucheref18_fresh_is (x : Ty) (y : Ty) : g_cartoucheref18_fresh [encTy x, encTy y] = if x.fields.length ≤ 2000000 ∧ y.fields.length ≤ 2000000 then some (.slice ((newF x y.fields).map encI)) else none := by
  simp only [g_cartoucheref18_fresh, decTy_enc, decTy_enc]
theorem g_cartoucheref18_fresh_ok : ∀ xs r, g_cartoucheref18_fresh xs = some r → FC Tryd.prog i_cartoucheref18_fresh xs (· = r) := by
  intro xs r h
  unfold g_cartoucheref18_fresh at h
  split at h
  · rename_i x_ y_
    split at h
    · rename_i x hx
      split at h
      · rename_i y hy
        split at h
        · rename_i hpre
          injection h with h; subst h
          have := decTy_enc_inv hx; subst this
          have := decTy_enc_inv hy; subst this
          exact ref18_fresh_fc x y hpre.1 hpre.2
        · cases h
      · cases h
    · cases h
  · cases h

noncomputable def g_evolve_Wider : List IV → Option IV
  | [.int .i64 a, .int .i64 b] => some (.bool (widerB a b))
  | _ => none
theorem g_evolve_Wider_ok : ∀ xs r, g_evolve_Wider xs = some r → FC Tryd.prog i_evolve_Wider xs (· = r) := by
  intro xs r h
  unfold g_evolve_Wider at h
  split at h
  · rename_i a b
    injection h with h; subst h
    exact evolve_Wider_fc a b
  · cases h

noncomputable def g_cartoucheref18_Wider : List IV → Option IV
  | [.int .i64 a, .int .i64 b] => some (.bool (widerB a b))
  | _ => none
theorem g_cartoucheref18_Wider_is (a : Int) (b : Int) : g_cartoucheref18_Wider [.int .i64 a, .int .i64 b] = some (.bool (widerB a b)) := by
  simp only [g_cartoucheref18_Wider]
theorem g_cartoucheref18_Wider_ok : ∀ xs r, g_cartoucheref18_Wider xs = some r → FC Tryd.prog i_cartoucheref18_Wider xs (· = r) := by
  intro xs r h
  unfold g_cartoucheref18_Wider at h
  split at h
  · rename_i a b
    injection h with h; subst h
    exact ref18_Wider_fc a b
  · cases h

end Go.Proofs.YtmdkcapbahjipaaDoor.Ag
