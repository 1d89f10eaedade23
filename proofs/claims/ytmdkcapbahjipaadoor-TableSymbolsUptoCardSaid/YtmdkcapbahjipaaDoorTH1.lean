/- A message's fields by number and by name, and how they take a kind. -/
import Derived.Test.YtmdkcapbahjipaaDoorTM1
set_option linter.unusedVariables false
set_option linter.unusedSimpArgs false
set_option maxRecDepth 100000
set_option maxHeartbeats 8000000
namespace Go.Proofs.YtmdkcapbahjipaaDoor.Ag
attribute [-go_sem] Int.not_lt Int.not_le
def zft : FT := ⟨⟨#[]⟩, 0, 0, 0, 0, 0, 0⟩
def Rising (l : List FT) : Prop := ∀ (i j : Nat) (f g : FT), i < j → l[i]? = some f → l[j]? = some g → f.number < g.number
def atF (l : List FT) (n : Int) : Option FT := l.find? fun f => decide (f.number = n)
def encAt : Option FT → IV
  | some f => .tup [encFT f, .bool true]
  | none => .tup [encFT zft, .bool false]
theorem atF_some {l : List FT} {n : Int} {i : Nat} {f : FT} (hr : Rising l) (hf : l[i]? = some f) (hn : f.number = n) : atF l n = some f := by
  have e : l = l.take i ++ f :: l.drop (i + 1) := by rw [← drop_at hf, List.take_append_drop]
  unfold atF
  rw [e, List.find?_append]
  have h0 : (l.take i).find? (fun f => decide (f.number = n)) = none := by
    rw [List.find?_eq_none]
    intro g hg
    obtain ⟨j, hj⟩ := List.getElem?_of_mem hg
    rw [List.getElem?_take] at hj
    split at hj
    · rename_i hji
      have := hr j i g f hji hj hf
      simp; omega
    · cases hj
  rw [h0, List.find?_cons]
  simp [hn]
theorem atF_none {l : List FT} {n : Int} (h : ∀ (k : Nat) (f : FT), l[k]? = some f → f.number ≠ n) : atF l n = none := by
  unfold atF
  rw [List.find?_eq_none]
  intro g hg
  obtain ⟨j, hj⟩ := List.getElem?_of_mem hg
  simpa using h j g hj
def AtI (x : Ty) (n : Int) (m : Nat) (st : St) : Prop := ∃ lo hi v : Nat, lk st.ρ 1 = some (.iv (.int .i64 n)) ∧ lk st.ρ 2 = some (.iv (.ref (encTy x))) ∧ lk st.ρ 4 = some (.loc 0 v 0) ∧ lk st.ρ 6 = some (.iv (.int .i64 (lo : Int))) ∧ lk st.ρ 7 = some (.iv (.int .i64 (hi : Int))) ∧
  lk st.σ 0 = some (v, .box [.iv (.str ⟨#[]⟩), .iv (.int .i64 0), .iv (.int .i64 0), .iv (.int .i64 0), .iv (.int .i64 0), .iv (.int .i64 0), .iv (.int .i64 0)]) ∧
  lo ≤ hi ∧ hi ≤ x.fields.length ∧ hi < lo + m ∧ (∀ (k : Nat) (f : FT), k < lo → x.fields[k]? = some f → f.number < n) ∧ (∀ (k : Nat) (f : FT), hi ≤ k → x.fields[k]? = some f → n ≤ f.number)
theorem quo2 (a b : Nat) : Int.tdiv (((a + b : Nat) : Int)) 2 = (((a + b) / 2 : Nat) : Int) := by
  rw [Int.tdiv_eq_ediv_of_nonneg (by omega)]; omega
theorem At_fc (x : Ty) (n : Int) (hr : Rising x.fields) (hl : x.fields.length ≤ 2000000) : FC Tryd.prog i_table_At [encTy x, .int .i64 n] (· = encAt (atF x.fields n)) := by
  (refine FC.vc (EnvOk.noneS) F_table_At T_table_At L_table_At ?_; unfold A_table_At; simp only [args0, List.map_cons, List.map_nil, List.zipIdx_cons, List.zipIdx_nil, Nat.reduceAdd])
  (simp -implicitDefEqProofs +contextual (maxSteps := 8000000) only [go_sem, ↓reduceIte, Nat.reduceEqDiff, Nat.reduceAdd, Nat.reduceSub, Nat.reduceLeDiff, Nat.reduceMul, reduceCtorEq, Nat.reduceBEq, Int.reduceLT, Int.reduceLE, Int.reduceNeg, Int.reduceEq, Int.reduceToNat, Nat.reducePow, Nat.reduceLT, Nat.reduceDiv, Nat.reduceMod, encTy])
  refine vc_loop (AtI x n) (x.fields.length + 1) ⟨0, x.fields.length, 0, by simp [lk], by simp [lk, encTy], by simp [lk], by simp [lk], by simp [lk], by simp [lk, upd], by omega, by omega, by omega, fun k f hk => absurd hk (by omega), fun k f hk hf => absurd (List.getElem?_eq_some_iff.1 hf).1 (by omega)⟩ ?_
  rintro m st ⟨lo, hi, v, h1, h2, h4, h6, h7, k0, g1, g2, g3, g4, g5⟩
  simp only [encTy] at h2
  by_cases hlh : lo < hi
  · have hlt : (lo : Int) < (hi : Int) := by omega
    have hmid : (lo + hi) / 2 < x.fields.length := by omega
    obtain ⟨f, hf⟩ : ∃ f, x.fields[(lo + hi) / 2]? = some f := ⟨x.fields[(lo + hi) / 2], by simp [hmid]⟩
    have hm := get_map (f := encFT) hf
    simp only [encFT] at hm
    have hw1 : IntKind.i64.wrap ((lo : Int) + (hi : Int)) = ((lo + hi : Nat) : Int) := by rw [wrap_i64 (by omega) (by omega)]; omega
    have hq := quo2 lo hi
    have hwq : IntKind.i64.wrap ((((lo + hi) / 2 : Nat) : Int)) = (((lo + hi) / 2 : Nat) : Int) := wrap_i64 (by omega) (by omega)
    have hw2 : IntKind.i64.wrap ((((lo + hi) / 2 : Nat) : Int) + 1) = (((lo + hi) / 2 + 1 : Nat) : Int) := by rw [wrap_i64 (by omega) (by omega)]; omega
    have hmi : (((lo + hi) / 2 : Nat) : Int) < (x.fields.length : Int) := by omega
    by_cases e1 : f.number < n
    · (simp -implicitDefEqProofs +contextual (maxSteps := 8000000) only [go_sem, ↓reduceIte, Nat.reduceEqDiff, Nat.reduceAdd, Nat.reduceSub, Nat.reduceLeDiff, Nat.reduceMul, reduceCtorEq, Nat.reduceBEq, Int.reduceLT, Int.reduceLE, Int.reduceNeg, Int.reduceEq, Int.reduceToNat, Nat.reducePow, Nat.reduceLT, Nat.reduceDiv, Nat.reduceMod, encTy, h1, h2, h4, h6, h7, k0, hlh, hlt, hmid, hmi, hm, hw1, hq, hwq, hw2, e1, forall_eq'])
      exact ⟨m - 1, by omega, (lo + hi) / 2 + 1, hi, v, by simp [lk, h1], by simp [lk, h2, encTy], by simp [lk, h4], by simp [lk], by simp [lk, h7], by simp [k0], by omega, by omega, by omega, fun k g hk hg => by
        by_cases e : k = (lo + hi) / 2
        · subst e; rw [hf] at hg; injection hg with hg; subst hg; exact e1
        · have := hr k _ g f (by omega) hg hf; omega, g5⟩
    · (simp -implicitDefEqProofs +contextual (maxSteps := 8000000) only [go_sem, ↓reduceIte, Nat.reduceEqDiff, Nat.reduceAdd, Nat.reduceSub, Nat.reduceLeDiff, Nat.reduceMul, reduceCtorEq, Nat.reduceBEq, Int.reduceLT, Int.reduceLE, Int.reduceNeg, Int.reduceEq, Int.reduceToNat, Nat.reducePow, Nat.reduceLT, Nat.reduceDiv, Nat.reduceMod, encTy, h1, h2, h4, h6, h7, k0, hlh, hlt, hmid, hmi, hm, hw1, hq, hwq, hw2, e1, forall_eq'])
      exact ⟨m - 1, by omega, lo, (lo + hi) / 2, v, by simp [lk, h1], by simp [lk, h2, encTy], by simp [lk, h4], by simp [lk, h6], by simp [lk], by simp [k0], by omega, by omega, by omega, g4, fun k g hk hg => by
        by_cases e : k = (lo + hi) / 2
        · subst e; rw [hf] at hg; injection hg with hg; subst hg; omega
        · have := hr _ k f g (by omega) hf hg; omega⟩
  · have hlt : ¬ (lo : Int) < (hi : Int) := by omega
    obtain rfl : lo = hi := by omega
    by_cases e0 : lo = x.fields.length
    · have e0' : (lo : Int) = (x.fields.length : Int) := by omega
      have hnone : atF x.fields n = none := atF_none fun k f hf => by have := g4 k f (by rw [e0]; exact (List.getElem?_eq_some_iff.1 hf).1) hf; omega
      (simp -implicitDefEqProofs +contextual (maxSteps := 8000000) only [go_sem, ↓reduceIte, Nat.reduceEqDiff, Nat.reduceAdd, Nat.reduceSub, Nat.reduceLeDiff, Nat.reduceMul, reduceCtorEq, Nat.reduceBEq, Int.reduceLT, Int.reduceLE, Int.reduceNeg, Int.reduceEq, Int.reduceToNat, Nat.reducePow, Nat.reduceLT, Nat.reduceDiv, Nat.reduceMod, encTy, h1, h2, h4, h6, h7, k0, hlh, hlt, e0, e0', hnone, Nat.lt_irrefl, Int.lt_irrefl])
      simp [encAt, encFT, zft]
    · have hlo : lo < x.fields.length := by omega
      have hlo2 : (lo : Int) < (x.fields.length : Int) := by omega
      obtain ⟨f, hf⟩ : ∃ f, x.fields[lo]? = some f := ⟨x.fields[lo], by simp [hlo]⟩
      have hm := get_map (f := encFT) hf
      simp only [encFT] at hm
      by_cases e1 : f.number = n
      · have hsome := atF_some hr hf e1
        (simp -implicitDefEqProofs +contextual (maxSteps := 8000000) only [go_sem, ↓reduceIte, Nat.reduceEqDiff, Nat.reduceAdd, Nat.reduceSub, Nat.reduceLeDiff, Nat.reduceMul, reduceCtorEq, Nat.reduceBEq, Int.reduceLT, Int.reduceLE, Int.reduceNeg, Int.reduceEq, Int.reduceToNat, Nat.reducePow, Nat.reduceLT, Nat.reduceDiv, Nat.reduceMod, encTy, h1, h2, h4, h6, h7, k0, hlh, hlt, e0, hlo, Nat.lt_irrefl, Int.lt_irrefl, hlo2, hm, e1, hsome, forall_eq'])
        simp [encAt, encFT, e1]
      · have hnone : atF x.fields n = none := atF_none fun k g hg => by
          rcases Nat.lt_trichotomy k lo with h | h | h
          · have := g4 k g h hg; omega
          · subst h; rw [hf] at hg; injection hg with hg; subst hg; exact e1
          · have h5 := hr lo k f g h hf hg
            have h6 := g5 lo f (Nat.le_refl _) hf
            omega
        (simp -implicitDefEqProofs +contextual (maxSteps := 8000000) only [go_sem, ↓reduceIte, Nat.reduceEqDiff, Nat.reduceAdd, Nat.reduceSub, Nat.reduceLeDiff, Nat.reduceMul, reduceCtorEq, Nat.reduceBEq, Int.reduceLT, Int.reduceLE, Int.reduceNeg, Int.reduceEq, Int.reduceToNat, Nat.reducePow, Nat.reduceLT, Nat.reduceDiv, Nat.reduceMod, encTy, h1, h2, h4, h6, h7, k0, hlh, hlt, e0, hlo, Nat.lt_irrefl, Int.lt_irrefl, hlo2, hm, e1, hnone, forall_eq'])
        simp [encAt, encFT, zft]
theorem msg_rising {t : List Ty} {x : Ty} (h : MsgOk t x) : Rising x.fields := by
  have hf := h.2.2.2.2.2.2.1
  have step : ∀ (d i : Nat) (f g : FT), x.fields[i]? = some f → x.fields[i + d + 1]? = some g → f.number < g.number := by
    intro d
    induction d with
    | zero =>
      intro i f g h1 h2
      exact (hf (i + 1) g h2).2.2.2.2 f (by omega) (by simpa using h1)
    | succ d ih =>
      intro i f g h1 h2
      have hlt := (List.getElem?_eq_some_iff.1 h2).1
      obtain ⟨m, hm⟩ : ∃ m, x.fields[i + d + 1]? = some m := ⟨x.fields[i + d + 1]'(by omega), by rw [List.getElem?_eq_getElem]⟩
      have h3 := ih i f m h1 hm
      have h4 := (hf (i + (d + 1) + 1) g h2).2.2.2.2 m (by omega) (by rw [show i + (d + 1) + 1 - 1 = i + d + 1 by omega]; exact hm)
      omega
  intro i j f g hij h1 h2
  obtain ⟨d, rfl⟩ : ∃ d, j = i + d + 1 := ⟨j - i - 1, by omega⟩
  exact step d i f g h1 h2
end Go.Proofs.YtmdkcapbahjipaaDoor.Ag
namespace Go.Proofs.YtmdkcapbahjipaaDoor.Ag
open Classical
noncomputable def g_table_At : List IV → Option IV
  | [x_, .int .i64 n] => (match decTy x_ with
    | some x => if Rising x.fields ∧ x.fields.length ≤ 2000000 then some (encAt (atF x.fields n)) else none
    | none => none)
  | _ => none
theorem g_table_At_is (x : Ty) (n : Int) : g_table_At [encTy x, .int .i64 n] = if Rising x.fields ∧ x.fields.length ≤ 2000000 then some (encAt (atF x.fields n)) else none := by
  simp only [g_table_At, decTy_enc]
theorem g_table_At_ok : ∀ xs r, g_table_At xs = some r → FC Tryd.prog i_table_At xs (· = r) := by
  intro xs r h
  unfold g_table_At at h
  split at h
  · rename_i x_ n
    split at h
    · rename_i x hx
      split at h
      · rename_i hpre
        injection h with h; subst h
        have := decTy_enc_inv hx; subst this
        exact At_fc x n hpre.1 hpre.2
      · cases h
    · cases h
  · cases h

end Go.Proofs.YtmdkcapbahjipaaDoor.Ag
namespace Go.Proofs.YtmdkcapbahjipaaDoor.Ag
def wireF (f : FT) : Int := if f.label = 5 then 2 else wireP f.kind 0
def wireR (f : FT) : Int := if f.label = 5 then 2 else wireP f.kind (-1)
def rowF (f : FT) : Bool := decide (f.label = 2 ∨ f.label = 3) && numericN f.kind
def howN (f : FT) (k : Int) : Int := if k = wireF f then 1 else if k = 2 ∧ rowF f = true then 2 else 0
noncomputable def envWi : Env := { split := true, fc := [(i_scalar_Wire, g_scalar_Wire), (i_scalar_Numeric, g_scalar_Numeric), (i_cartoucheref3_Wire, g_cartoucheref3_Wire), (i_cartoucheref3_Numeric, g_cartoucheref3_Numeric)] }
theorem envWi_ok : EnvOk Tryd.prog envWi := (((EnvOk.noneS.addF g_cartoucheref3_Numeric_ok).addF g_cartoucheref3_Wire_ok).addF g_scalar_Numeric_ok).addF g_scalar_Wire_ok
theorem table_Wire_fc (f : FT) : FC Tryd.prog i_table_Wire [encFT f] (· = .int .i64 (wireF f)) := by
  have h := g_scalar_Wire_is f.kind
  unfold wireF
  by_cases e : f.label = 5
  all_goals
    (refine FC.vc (envWi_ok) F_table_Wire T_table_Wire L_table_Wire ?_; unfold A_table_Wire; simp only [args0, List.map_cons, List.map_nil, List.zipIdx_cons, List.zipIdx_nil, Nat.reduceAdd])
    (simp -implicitDefEqProofs +contextual (maxSteps := 8000000) only [go_sem, ↓reduceIte, Nat.reduceEqDiff, Nat.reduceAdd, Nat.reduceSub, Nat.reduceLeDiff, Nat.reduceMul, reduceCtorEq, Nat.reduceBEq, Int.reduceLT, Int.reduceLE, Int.reduceNeg, Int.reduceEq, Int.reduceToNat, Nat.reducePow, Nat.reduceLT, Nat.reduceDiv, Nat.reduceMod, encFT, envWi, i_scalar_Wire, i_scalar_Numeric, i_cartoucheref3_Wire, i_cartoucheref3_Numeric, h, e])
theorem ref7_Wire_fc (f : FT) : FC Tryd.prog i_cartoucheref7_Wire [encFT f] (· = .int .i64 (wireR f)) := by
  have h := g_cartoucheref3_Wire_is f.kind
  unfold wireR
  by_cases e : f.label = 5
  all_goals
    (refine FC.vc (envWi_ok) F_cartoucheref7_Wire T_cartoucheref7_Wire L_cartoucheref7_Wire ?_; unfold A_cartoucheref7_Wire; simp only [args0, List.map_cons, List.map_nil, List.zipIdx_cons, List.zipIdx_nil, Nat.reduceAdd])
    (simp -implicitDefEqProofs +contextual (maxSteps := 8000000) only [go_sem, ↓reduceIte, Nat.reduceEqDiff, Nat.reduceAdd, Nat.reduceSub, Nat.reduceLeDiff, Nat.reduceMul, reduceCtorEq, Nat.reduceBEq, Int.reduceLT, Int.reduceLE, Int.reduceNeg, Int.reduceEq, Int.reduceToNat, Nat.reducePow, Nat.reduceLT, Nat.reduceDiv, Nat.reduceMod, encFT, envWi, i_scalar_Wire, i_scalar_Numeric, i_cartoucheref3_Wire, i_cartoucheref3_Numeric, h, e])
theorem table_HasRow_fc (f : FT) : FC Tryd.prog i_table_HasRow [encFT f] (· = .bool (rowF f)) := by
  have h := g_scalar_Numeric_is f.kind
  unfold rowF
  by_cases e : f.label = 2
  · have e3 : ¬ f.label = 3 := by omega
    (refine FC.vc (envWi_ok) F_table_HasRow T_table_HasRow L_table_HasRow ?_; unfold A_table_HasRow; simp only [args0, List.map_cons, List.map_nil, List.zipIdx_cons, List.zipIdx_nil, Nat.reduceAdd])
    (simp -implicitDefEqProofs +contextual (maxSteps := 8000000) only [go_sem, ↓reduceIte, Nat.reduceEqDiff, Nat.reduceAdd, Nat.reduceSub, Nat.reduceLeDiff, Nat.reduceMul, reduceCtorEq, Nat.reduceBEq, Int.reduceLT, Int.reduceLE, Int.reduceNeg, Int.reduceEq, Int.reduceToNat, Nat.reducePow, Nat.reduceLT, Nat.reduceDiv, Nat.reduceMod, encFT, envWi, i_scalar_Wire, i_scalar_Numeric, i_cartoucheref3_Wire, i_cartoucheref3_Numeric, h, e, e3])
    simp
  · by_cases e3 : f.label = 3
    all_goals
      (refine FC.vc (envWi_ok) F_table_HasRow T_table_HasRow L_table_HasRow ?_; unfold A_table_HasRow; simp only [args0, List.map_cons, List.map_nil, List.zipIdx_cons, List.zipIdx_nil, Nat.reduceAdd])
      (simp -implicitDefEqProofs +contextual (maxSteps := 8000000) only [go_sem, ↓reduceIte, Nat.reduceEqDiff, Nat.reduceAdd, Nat.reduceSub, Nat.reduceLeDiff, Nat.reduceMul, reduceCtorEq, Nat.reduceBEq, Int.reduceLT, Int.reduceLE, Int.reduceNeg, Int.reduceEq, Int.reduceToNat, Nat.reducePow, Nat.reduceLT, Nat.reduceDiv, Nat.reduceMod, encFT, envWi, i_scalar_Wire, i_scalar_Numeric, i_cartoucheref3_Wire, i_cartoucheref3_Numeric, h, e, e3])
      simp
theorem find_at {α : Type} {p : α → Bool} {l : List α} {i : Nat} {y : α} (hb : ∀ z ∈ l.take i, p z = false) (hy : l[i]? = some y) (he : p y = true) : l.find? p = some y := by
  obtain ⟨h1, h2⟩ := List.getElem?_eq_some_iff.1 hy
  rw [← List.take_append_drop i l, List.find?_append, List.find?_eq_none.2 (fun z hz => by simp [hb z hz]), List.drop_eq_getElem_cons h1, h2]
  simp [he]
theorem find_no {α : Type} {p : α → Bool} {l : List α} (hb : ∀ z ∈ l, p z = false) : l.find? p = none := List.find?_eq_none.2 fun z hz => by simp [hb z hz]
theorem take_all2 {α : Type} {p : α → Bool} {l : List α} {i : Nat} {y : α} (hb : ∀ z ∈ l.take i, p z = false) (hy : l[i]? = some y) (he : p y = false) : ∀ z ∈ l.take (i + 1), p z = false := by
  rw [List.take_add_one, hy]
  intro z hz
  rcases List.mem_append.1 hz with hz | hz
  · exact hb z hz
  · simp at hz; subst hz; exact he
def nmF (l : List FT) (name : ByteArray) : Option FT := l.find? fun f => decide (f.name = name)
noncomputable def isMsgB (t : List Ty) (i : Int) : Bool := dec (GoodT t) && sortB t i false
theorem isMsg_get {t : List Ty} {i : Int} (h : isMsgB t i = true) : ∃ (n : Nat) (x : Ty), i = (n : Int) ∧ t[n]? = some x ∧ x.enum = false ∧ MsgOk t x := by
  unfold isMsgB sortB at h
  rw [Bool.and_eq_true, Bool.and_eq_true] at h
  obtain ⟨h1, h2, h3⟩ := h
  have hg := dec_iff.1 h1
  have h0 : 0 ≤ i := of_decide_eq_true h2
  obtain ⟨n, rfl⟩ := Int.eq_ofNat_of_zero_le h0
  simp only [Int.toNat_natCast, Int.ofNat_eq_natCast] at h3 ⊢
  cases hx : t[n]? with
  | none => rw [hx] at h3; cases h3
  | some x =>
    rw [hx] at h3
    have he : x.enum = false := by simpa using h3
    exact ⟨n, x, rfl, hx, he, (hg.2 n x hx).2.2 he⟩
noncomputable def onMsg (t : List Ty) (i : Int) (z : IV) (f : Ty → IV) : IV := if isMsgB t i then (match t[i.toNat]? with
  | some x => f x
  | none => z) else z
theorem onMsg_no {t : List Ty} {i : Int} (h : isMsgB t i = false) (z : IV) (f : Ty → IV) : onMsg t i z f = z := by simp [onMsg, h]
theorem onMsg_yes {t : List Ty} {n : Nat} {x : Ty} (h : isMsgB t n = true) (hx : t[n]? = some x) (z : IV) (f : Ty → IV) : onMsg t n z f = f x := by simp [onMsg, h, hx]
def orF (o : Option FT) (a b : IV) : IV := match o with
  | some f => .tup [encFT f, a]
  | none => .tup [encFT zft, b]
noncomputable def fieldP (t : List Ty) (i n : Int) : IV := onMsg t i (.tup [encFT zft, .int .i64 18]) fun x => orF (atF x.fields n) (.int .i64 0) (.int .i64 20)
noncomputable def namedP (t : List Ty) (i : Int) (name : ByteArray) : IV := onMsg t i (.tup [encFT zft, .int .i64 18]) fun x => orF (nmF x.fields name) (.int .i64 0) (.int .i64 20)
noncomputable def takesP (t : List Ty) (i n k : Int) : IV := onMsg t i (.tup [.int .i64 0, .int .i64 18]) fun x => match atF x.fields n with
  | some f => .tup [.int .i64 (howN f k), .int .i64 0]
  | none => .tup [.int .i64 0, .int .i64 0]
end Go.Proofs.YtmdkcapbahjipaaDoor.Ag
namespace Go.Proofs.YtmdkcapbahjipaaDoor.Ag
open Classical
noncomputable def g_table_Wire : List IV → Option IV
  | [f_] => (match decFT f_ with
    | some f => some (.int .i64 (wireF f))
    | none => none)
  | _ => none
theorem g_table_Wire_is (f : FT) : g_table_Wire [encFT f] = some (.int .i64 (wireF f)) := by
  simp only [g_table_Wire, decFT_enc]
theorem g_table_Wire_ok : ∀ xs r, g_table_Wire xs = some r → FC Tryd.prog i_table_Wire xs (· = r) := by
  intro xs r h
  unfold g_table_Wire at h
  split at h
  · rename_i f_
    split at h
    · rename_i f hf
      injection h with h; subst h
      have := decFT_enc_inv hf; subst this
      exact table_Wire_fc f
    · cases h
  · cases h

noncomputable def g_table_HasRow : List IV → Option IV
  | [f_] => (match decFT f_ with
    | some f => some (.bool (rowF f))
    | none => none)
  | _ => none
theorem g_table_HasRow_is (f : FT) : g_table_HasRow [encFT f] = some (.bool (rowF f)) := by
  simp only [g_table_HasRow, decFT_enc]
theorem g_table_HasRow_ok : ∀ xs r, g_table_HasRow xs = some r → FC Tryd.prog i_table_HasRow xs (· = r) := by
  intro xs r h
  unfold g_table_HasRow at h
  split at h
  · rename_i f_
    split at h
    · rename_i f hf
      injection h with h; subst h
      have := decFT_enc_inv hf; subst this
      exact table_HasRow_fc f
    · cases h
  · cases h

noncomputable def g_cartoucheref7_Wire : List IV → Option IV
  | [f_] => (match decFT f_ with
    | some f => some (.int .i64 (wireR f))
    | none => none)
  | _ => none
theorem g_cartoucheref7_Wire_is (f : FT) : g_cartoucheref7_Wire [encFT f] = some (.int .i64 (wireR f)) := by
  simp only [g_cartoucheref7_Wire, decFT_enc]
theorem g_cartoucheref7_Wire_ok : ∀ xs r, g_cartoucheref7_Wire xs = some r → FC Tryd.prog i_cartoucheref7_Wire xs (· = r) := by
  intro xs r h
  unfold g_cartoucheref7_Wire at h
  split at h
  · rename_i f_
    split at h
    · rename_i f hf
      injection h with h; subst h
      have := decFT_enc_inv hf; subst this
      exact ref7_Wire_fc f
    · cases h
  · cases h

end Go.Proofs.YtmdkcapbahjipaaDoor.Ag
namespace Go.Proofs.YtmdkcapbahjipaaDoor.Ag
noncomputable def envHo : Env := { split := true, fc := [(i_table_Wire, g_table_Wire), (i_table_HasRow, g_table_HasRow)] }
theorem envHo_ok : EnvOk Tryd.prog envHo := (EnvOk.noneS.addF g_table_HasRow_ok).addF g_table_Wire_ok
theorem table_How_fc (f : FT) (k : Int) : FC Tryd.prog i_table_How [encFT f, .int .i64 k] (· = .int .i64 (howN f k)) := by
  have h1 := g_table_Wire_is f
  have h2 := g_table_HasRow_is f
  simp only [encFT] at h1 h2
  unfold howN
  by_cases e1 : k = wireF f
  · (refine FC.vc (envHo_ok) F_table_How T_table_How L_table_How ?_; unfold A_table_How; simp only [args0, List.map_cons, List.map_nil, List.zipIdx_cons, List.zipIdx_nil, Nat.reduceAdd])
    (simp -implicitDefEqProofs +contextual (maxSteps := 8000000) only [go_sem, ↓reduceIte, Nat.reduceEqDiff, Nat.reduceAdd, Nat.reduceSub, Nat.reduceLeDiff, Nat.reduceMul, reduceCtorEq, Nat.reduceBEq, Int.reduceLT, Int.reduceLE, Int.reduceNeg, Int.reduceEq, Int.reduceToNat, Nat.reducePow, Nat.reduceLT, Nat.reduceDiv, Nat.reduceMod, encFT, envHo, i_table_Wire, i_table_HasRow, h1, h2, e1])
  · by_cases e2 : k = 2
    · generalize hr : rowF f = b at h2
      cases b with
      | true =>
        (refine FC.vc (envHo_ok) F_table_How T_table_How L_table_How ?_; unfold A_table_How; simp only [args0, List.map_cons, List.map_nil, List.zipIdx_cons, List.zipIdx_nil, Nat.reduceAdd])
        (simp -implicitDefEqProofs +contextual (maxSteps := 8000000) only [go_sem, ↓reduceIte, Nat.reduceEqDiff, Nat.reduceAdd, Nat.reduceSub, Nat.reduceLeDiff, Nat.reduceMul, reduceCtorEq, Nat.reduceBEq, Int.reduceLT, Int.reduceLE, Int.reduceNeg, Int.reduceEq, Int.reduceToNat, Nat.reducePow, Nat.reduceLT, Nat.reduceDiv, Nat.reduceMod, encFT, envHo, i_table_Wire, i_table_HasRow, h1, h2, e1, e2])
        all_goals grind
      | false =>
        (refine FC.vc (envHo_ok) F_table_How T_table_How L_table_How ?_; unfold A_table_How; simp only [args0, List.map_cons, List.map_nil, List.zipIdx_cons, List.zipIdx_nil, Nat.reduceAdd])
        (simp -implicitDefEqProofs +contextual (maxSteps := 8000000) only [go_sem, ↓reduceIte, Nat.reduceEqDiff, Nat.reduceAdd, Nat.reduceSub, Nat.reduceLeDiff, Nat.reduceMul, reduceCtorEq, Nat.reduceBEq, Int.reduceLT, Int.reduceLE, Int.reduceNeg, Int.reduceEq, Int.reduceToNat, Nat.reducePow, Nat.reduceLT, Nat.reduceDiv, Nat.reduceMod, encFT, envHo, i_table_Wire, i_table_HasRow, h1, h2, e1, e2])
        all_goals grind
    · (refine FC.vc (envHo_ok) F_table_How T_table_How L_table_How ?_; unfold A_table_How; simp only [args0, List.map_cons, List.map_nil, List.zipIdx_cons, List.zipIdx_nil, Nat.reduceAdd])
      (simp -implicitDefEqProofs +contextual (maxSteps := 8000000) only [go_sem, ↓reduceIte, Nat.reduceEqDiff, Nat.reduceAdd, Nat.reduceSub, Nat.reduceLeDiff, Nat.reduceMul, reduceCtorEq, Nat.reduceBEq, Int.reduceLT, Int.reduceLE, Int.reduceNeg, Int.reduceEq, Int.reduceToNat, Nat.reducePow, Nat.reduceLT, Nat.reduceDiv, Nat.reduceMod, encFT, envHo, i_table_Wire, i_table_HasRow, h1, h2, e1, e2])
      all_goals grind
noncomputable def envNoS : Env := { split := true }
theorem envNoS_ok : EnvOk Tryd.prog envNoS := EnvOk.noneS
def zbox : Item := .box [.iv (.str ⟨#[]⟩), .iv (.int .i64 0), .iv (.int .i64 0), .iv (.int .i64 0), .iv (.int .i64 0), .iv (.int .i64 0), .iv (.int .i64 0)]
def RfI (x : Ty) (num : Int) (n : Nat) (st : St) : Prop := ∃ i v : Nat, lk st.ρ 2 = some (.iv (.int .i64 num)) ∧ lk st.ρ 6 = some (.loc 0 v 0) ∧ lk st.ρ 8 = some (.iv (.slice (x.fields.map encFT))) ∧ lk st.ρ 9 = some (.iv (.int .i64 (i : Int))) ∧
  lk st.σ 0 = some (v, zbox) ∧ i ≤ x.fields.length ∧ x.fields.length < i + n ∧ ∀ z ∈ x.fields.take i, decide (z.number = num) = false
theorem ref7_Field_fc (t : List Ty) (i : Nat) (x : Ty) (num : Int) (hx : t[i]? = some x) (hl : x.fields.length ≤ 2000000) : FC Tryd.prog i_cartoucheref7_Field [encTable t, .int .i64 (i : Int), .int .i64 num] (· = orF (atF x.fields num) (.bool true) (.bool false)) := by
  have hm := get_map (f := encTy) hx
  simp only [encTy] at hm
  have hil := (List.getElem?_eq_some_iff.1 hx).1
  have hili : (i : Int) < (t.length : Int) := by omega
  (refine FC.vc (envNoS_ok) F_cartoucheref7_Field T_cartoucheref7_Field L_cartoucheref7_Field ?_; unfold A_cartoucheref7_Field; simp only [args0, List.map_cons, List.map_nil, List.zipIdx_cons, List.zipIdx_nil, Nat.reduceAdd])
  (simp -implicitDefEqProofs +contextual (maxSteps := 8000000) only [go_sem, ↓reduceIte, Nat.reduceEqDiff, Nat.reduceAdd, Nat.reduceSub, Nat.reduceLeDiff, Nat.reduceMul, reduceCtorEq, Nat.reduceBEq, Int.reduceLT, Int.reduceLE, Int.reduceNeg, Int.reduceEq, Int.reduceToNat, Nat.reducePow, Nat.reduceLT, Nat.reduceDiv, Nat.reduceMod, encTable, envNoS, hm, hil, hili, forall_eq'])
  refine vc_loop (RfI x num) (x.fields.length + 1) ⟨0, 0, by simp [lk], by simp [lk], by simp [lk], by simp [lk], by simp [lk, upd, zbox], by omega, by omega, by simp⟩ ?_
  rintro n st ⟨j, v, h2, h6, h8, h9, k0, g1, g2, g3⟩
  unfold zbox at k0
  by_cases hj : j < x.fields.length
  · obtain ⟨f, hf⟩ : ∃ f, x.fields[j]? = some f := ⟨x.fields[j], by simp [hj]⟩
    have hmf := get_map (f := encFT) hf
    simp only [encFT] at hmf
    have hw := wrap1 hj (by omega)
    have hlt : (j : Int) < (x.fields.length : Int) := by omega
    by_cases e1 : f.number = num
    · have hs : atF x.fields num = some f := find_at g3 hf (by simpa using e1)
      rw [hs]
      unfold orF
      (simp -implicitDefEqProofs +contextual (maxSteps := 8000000) only [go_sem, ↓reduceIte, Nat.reduceEqDiff, Nat.reduceAdd, Nat.reduceSub, Nat.reduceLeDiff, Nat.reduceMul, reduceCtorEq, Nat.reduceBEq, Int.reduceLT, Int.reduceLE, Int.reduceNeg, Int.reduceEq, Int.reduceToNat, Nat.reducePow, Nat.reduceLT, Nat.reduceDiv, Nat.reduceMod, encFT, envNoS, h2, h6, h8, h9, k0, hj, hlt, hmf, hw, e1, forall_eq'])
    · (simp -implicitDefEqProofs +contextual (maxSteps := 8000000) only [go_sem, ↓reduceIte, Nat.reduceEqDiff, Nat.reduceAdd, Nat.reduceSub, Nat.reduceLeDiff, Nat.reduceMul, reduceCtorEq, Nat.reduceBEq, Int.reduceLT, Int.reduceLE, Int.reduceNeg, Int.reduceEq, Int.reduceToNat, Nat.reducePow, Nat.reduceLT, Nat.reduceDiv, Nat.reduceMod, encFT, envNoS, h2, h6, h8, h9, k0, hj, hlt, hmf, hw, e1, forall_eq'])
      exact ⟨n - 1, by omega, j + 1, v, by simp [lk, h2], by simp [lk, h6], by simp [lk, h8], by simp [lk], by simp [k0, zbox], by omega, by omega, take_all2 g3 hf (by simpa using e1)⟩
  · have hlt : ¬ (j : Int) < (x.fields.length : Int) := by omega
    rw [List.take_of_length_le (by omega)] at g3
    have hs : atF x.fields num = none := find_no g3
    rw [hs]
    unfold orF zft
    (simp -implicitDefEqProofs +contextual (maxSteps := 8000000) only [go_sem, ↓reduceIte, Nat.reduceEqDiff, Nat.reduceAdd, Nat.reduceSub, Nat.reduceLeDiff, Nat.reduceMul, reduceCtorEq, Nat.reduceBEq, Int.reduceLT, Int.reduceLE, Int.reduceNeg, Int.reduceEq, Int.reduceToNat, Nat.reducePow, Nat.reduceLT, Nat.reduceDiv, Nat.reduceMod, encFT, envNoS, h2, h6, h8, h9, k0, hj, hlt])
def RnI (x : Ty) (name : ByteArray) (n : Nat) (st : St) : Prop := ∃ i v : Nat, lk st.ρ 2 = some (.iv (.str name)) ∧ lk st.ρ 6 = some (.loc 0 v 0) ∧ lk st.ρ 8 = some (.iv (.slice (x.fields.map encFT))) ∧ lk st.ρ 9 = some (.iv (.int .i64 (i : Int))) ∧
  lk st.σ 0 = some (v, zbox) ∧ i ≤ x.fields.length ∧ x.fields.length < i + n ∧ ∀ z ∈ x.fields.take i, decide (z.name = name) = false
theorem ref7_Named_fc (t : List Ty) (i : Nat) (x : Ty) (name : ByteArray) (hx : t[i]? = some x) (hl : x.fields.length ≤ 2000000) : FC Tryd.prog i_cartoucheref7_Named [encTable t, .int .i64 (i : Int), .str name] (· = orF (nmF x.fields name) (.bool true) (.bool false)) := by
  have hm := get_map (f := encTy) hx
  simp only [encTy] at hm
  have hil := (List.getElem?_eq_some_iff.1 hx).1
  have hili : (i : Int) < (t.length : Int) := by omega
  (refine FC.vc (envNoS_ok) F_cartoucheref7_Named T_cartoucheref7_Named L_cartoucheref7_Named ?_; unfold A_cartoucheref7_Named; simp only [args0, List.map_cons, List.map_nil, List.zipIdx_cons, List.zipIdx_nil, Nat.reduceAdd])
  (simp -implicitDefEqProofs +contextual (maxSteps := 8000000) only [go_sem, ↓reduceIte, Nat.reduceEqDiff, Nat.reduceAdd, Nat.reduceSub, Nat.reduceLeDiff, Nat.reduceMul, reduceCtorEq, Nat.reduceBEq, Int.reduceLT, Int.reduceLE, Int.reduceNeg, Int.reduceEq, Int.reduceToNat, Nat.reducePow, Nat.reduceLT, Nat.reduceDiv, Nat.reduceMod, encTable, envNoS, hm, hil, hili, forall_eq'])
  refine vc_loop (RnI x name) (x.fields.length + 1) ⟨0, 0, by simp [lk], by simp [lk], by simp [lk], by simp [lk], by simp [lk, upd, zbox], by omega, by omega, by simp⟩ ?_
  rintro n st ⟨j, v, h2, h6, h8, h9, k0, g1, g2, g3⟩
  unfold zbox at k0
  by_cases hj : j < x.fields.length
  · obtain ⟨f, hf⟩ : ∃ f, x.fields[j]? = some f := ⟨x.fields[j], by simp [hj]⟩
    have hmf := get_map (f := encFT) hf
    simp only [encFT] at hmf
    have hw := wrap1 hj (by omega)
    have hlt : (j : Int) < (x.fields.length : Int) := by omega
    by_cases e1 : f.name = name
    · have hs : nmF x.fields name = some f := find_at g3 hf (by simpa using e1)
      rw [hs]
      unfold orF
      (simp -implicitDefEqProofs +contextual (maxSteps := 8000000) only [go_sem, ↓reduceIte, Nat.reduceEqDiff, Nat.reduceAdd, Nat.reduceSub, Nat.reduceLeDiff, Nat.reduceMul, reduceCtorEq, Nat.reduceBEq, Int.reduceLT, Int.reduceLE, Int.reduceNeg, Int.reduceEq, Int.reduceToNat, Nat.reducePow, Nat.reduceLT, Nat.reduceDiv, Nat.reduceMod, encFT, envNoS, h2, h6, h8, h9, k0, hj, hlt, hmf, hw, e1, forall_eq'])
    · (simp -implicitDefEqProofs +contextual (maxSteps := 8000000) only [go_sem, ↓reduceIte, Nat.reduceEqDiff, Nat.reduceAdd, Nat.reduceSub, Nat.reduceLeDiff, Nat.reduceMul, reduceCtorEq, Nat.reduceBEq, Int.reduceLT, Int.reduceLE, Int.reduceNeg, Int.reduceEq, Int.reduceToNat, Nat.reducePow, Nat.reduceLT, Nat.reduceDiv, Nat.reduceMod, encFT, envNoS, h2, h6, h8, h9, k0, hj, hlt, hmf, hw, e1, forall_eq'])
      exact ⟨n - 1, by omega, j + 1, v, by simp [lk, h2], by simp [lk, h6], by simp [lk, h8], by simp [lk], by simp [k0, zbox], by omega, by omega, take_all2 g3 hf (by simpa using e1)⟩
  · have hlt : ¬ (j : Int) < (x.fields.length : Int) := by omega
    rw [List.take_of_length_le (by omega)] at g3
    have hs : nmF x.fields name = none := find_no g3
    rw [hs]
    unfold orF zft
    (simp -implicitDefEqProofs +contextual (maxSteps := 8000000) only [go_sem, ↓reduceIte, Nat.reduceEqDiff, Nat.reduceAdd, Nat.reduceSub, Nat.reduceLeDiff, Nat.reduceMul, reduceCtorEq, Nat.reduceBEq, Int.reduceLT, Int.reduceLE, Int.reduceNeg, Int.reduceEq, Int.reduceToNat, Nat.reducePow, Nat.reduceLT, Nat.reduceDiv, Nat.reduceMod, encFT, envNoS, h2, h6, h8, h9, k0, hj, hlt])
def refOn (t : List Ty) (i : Int) (f : Ty → IV) : IV := match t[i.toNat]? with
  | some x => f x
  | none => .nil
def RefOn (t : List Ty) (i : Int) : Prop := ∃ (n : Nat) (x : Ty), i = (n : Int) ∧ t[n]? = some x ∧ x.fields.length ≤ 2000000
theorem refOn_is {t : List Ty} {n : Nat} {x : Ty} (hx : t[n]? = some x) (f : Ty → IV) : refOn t (n : Int) f = f x := by simp [refOn, hx]
end Go.Proofs.YtmdkcapbahjipaaDoor.Ag
namespace Go.Proofs.YtmdkcapbahjipaaDoor.Ag
open Classical
noncomputable def g_table_How : List IV → Option IV
  | [f_, .int .i64 k] => (match decFT f_ with
    | some f => some (.int .i64 (howN f k))
    | none => none)
  | _ => none
theorem g_table_How_is (f : FT) (k : Int) : g_table_How [encFT f, .int .i64 k] = some (.int .i64 (howN f k)) := by
  simp only [g_table_How, decFT_enc]
theorem g_table_How_ok : ∀ xs r, g_table_How xs = some r → FC Tryd.prog i_table_How xs (· = r) := by
  intro xs r h
  unfold g_table_How at h
  split at h
  · rename_i f_ k
    split at h
    · rename_i f hf
      injection h with h; subst h
      have := decFT_enc_inv hf; subst this
      exact table_How_fc f k
    · cases h
  · cases h

noncomputable def g_cartoucheref7_Field : List IV → Option IV
  | [t_, .int .i64 i, .int .i64 num] => (match decTable t_ with
    | some t => if RefOn t i then some (refOn t i fun x => orF (atF x.fields num) (.bool true) (.bool false)) else none
    | none => none)
  | _ => none
theorem g_cartoucheref7_Field_is (t : List Ty) (i : Int) (num : Int) : g_cartoucheref7_Field [encTable t, .int .i64 i, .int .i64 num] = if RefOn t i then some (refOn t i fun x => orF (atF x.fields num) (.bool true) (.bool false)) else none := by
  simp only [g_cartoucheref7_Field, decTable_enc]
theorem g_cartoucheref7_Field_ok : ∀ xs r, g_cartoucheref7_Field xs = some r → FC Tryd.prog i_cartoucheref7_Field xs (· = r) := by
  intro xs r h
  unfold g_cartoucheref7_Field at h
  split at h
  · rename_i t_ i num
    split at h
    · rename_i t ht
      split at h
      · rename_i hpre
        injection h with h; subst h
        have := decTable_enc_inv ht; subst this
        obtain ⟨n, x, rfl, hx, hl⟩ := hpre
        rw [refOn_is hx]
        exact ref7_Field_fc t n x num hx hl
      · cases h
    · cases h
  · cases h

noncomputable def g_cartoucheref7_Named : List IV → Option IV
  | [t_, .int .i64 i, .str name] => (match decTable t_ with
    | some t => if RefOn t i then some (refOn t i fun x => orF (nmF x.fields name) (.bool true) (.bool false)) else none
    | none => none)
  | _ => none
theorem g_cartoucheref7_Named_is (t : List Ty) (i : Int) (name : ByteArray) : g_cartoucheref7_Named [encTable t, .int .i64 i, .str name] = if RefOn t i then some (refOn t i fun x => orF (nmF x.fields name) (.bool true) (.bool false)) else none := by
  simp only [g_cartoucheref7_Named, decTable_enc]
theorem g_cartoucheref7_Named_ok : ∀ xs r, g_cartoucheref7_Named xs = some r → FC Tryd.prog i_cartoucheref7_Named xs (· = r) := by
  intro xs r h
  unfold g_cartoucheref7_Named at h
  split at h
  · rename_i t_ i name
    split at h
    · rename_i t ht
      split at h
      · rename_i hpre
        injection h with h; subst h
        have := decTable_enc_inv ht; subst this
        obtain ⟨n, x, rfl, hx, hl⟩ := hpre
        rw [refOn_is hx]
        exact ref7_Named_fc t n x name hx hl
      · cases h
    · cases h
  · cases h

end Go.Proofs.YtmdkcapbahjipaaDoor.Ag
