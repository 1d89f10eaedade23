/- How deep a message can be; an enum's symbols. -/
import Derived.Test.YtmdkcapbahjipaaDoorTH1
import Derived.Test.YtmdkcapbahjipaaDoorTAirD
set_option linter.unusedVariables false
set_option linter.unusedSimpArgs false
set_option maxRecDepth 100000
set_option maxHeartbeats 8000000
namespace Go.Proofs.YtmdkcapbahjipaaDoor.Ag
def dR (sc : Nat → List Nat) : Nat → Nat → Nat
  | 0, _ => 1
  | k + 1, i => (sc i).foldl (fun m j => max m (dR sc k j + 1)) 1
def FinD (sc : Nat → List Nat) (i d : Nat) : Prop := 1 ≤ d ∧ ∀ k, dR sc k i = min d (k + 1)
def InfD (sc : Nat → List Nat) (i : Nat) : Prop := ∀ k, dR sc k i = k + 1
def FinL (sc : Nat → List Nat) (l : List Nat) (m : Nat) : Prop := ∀ k, l.foldl (fun a j => max a (dR sc k j + 1)) 1 = min (m + 1) (k + 2)
theorem foldl_max_le {g : Nat → Nat} {B : Nat} : ∀ {l : List Nat} {a : Nat}, a ≤ B → (∀ j ∈ l, g j ≤ B) → l.foldl (fun m j => max m (g j)) a ≤ B
  | [], a, h, _ => h
  | j :: l, a, h, k => foldl_max_le (l := l) (Nat.max_le.2 ⟨h, k j (by simp)⟩) fun x hx => k x (by simp [hx])
theorem foldl_max_ge {g : Nat → Nat} : ∀ {l : List Nat} {a : Nat}, a ≤ l.foldl (fun m j => max m (g j)) a ∧ ∀ j ∈ l, g j ≤ l.foldl (fun m j => max m (g j)) a
  | [], a => ⟨Nat.le_refl _, fun j hj => by cases hj⟩
  | x :: l, a => by
    have h := foldl_max_ge (g := g) (l := l) (a := max a (g x))
    simp only [List.foldl_cons]
    refine ⟨Nat.le_trans (Nat.le_max_left _ _) h.1, fun j hj => ?_⟩
    rcases List.mem_cons.1 hj with rfl | hj
    · exact Nat.le_trans (Nat.le_max_right _ _) h.1
    · exact h.2 j hj
theorem dR_le (sc : Nat → List Nat) : ∀ k i, dR sc k i ≤ k + 1
  | 0, i => by simp [dR]
  | k + 1, i => by
    simp only [dR]
    exact foldl_max_le (g := fun j => dR sc k j + 1) (by omega) fun j _ => by have := dR_le sc k j; omega
theorem FinL.nil (sc : Nat → List Nat) : FinL sc [] 0 := fun k => by simp only [List.foldl_nil]; omega
theorem FinL.snoc {sc : Nat → List Nat} {l : List Nat} {m j d : Nat} (h : FinL sc l m) (hj : FinD sc j d) : FinL sc (l ++ [j]) (max m d) := fun k => by
  rw [List.foldl_append, h k]
  simp only [List.foldl_cons, List.foldl_nil, hj.2 k]
  omega
theorem FinL.fin {sc : Nat → List Nat} {i m : Nat} (h : FinL sc (sc i) m) : FinD sc i (m + 1) := ⟨by omega, fun k => by
  cases k with
  | zero => simp only [dR]; omega
  | succ k => simp only [dR]; rw [h k]⟩
theorem InfD.step {sc : Nat → List Nat} {i j : Nat} (hj : j ∈ sc i) (h : InfD sc j) : InfD sc i := fun k => by
  cases k with
  | zero => rfl
  | succ k =>
    have h1 := dR_le sc (k + 1) i
    have h2 := (foldl_max_ge (g := fun j => dR sc k j + 1) (l := sc i) (a := 1)).2 j hj
    have h3 := h k
    simp only [dR] at h1 h2 ⊢
    omega
theorem InfD.ring {sc : Nat → List Nat} {C : Nat → Prop} (h : ∀ p, C p → ∃ q ∈ sc p, C q) : ∀ k p, C p → dR sc k p = k + 1
  | 0, p, _ => rfl
  | k + 1, p, hp => by
    obtain ⟨q, hq, hc⟩ := h p hp
    have h1 := dR_le sc (k + 1) p
    have h2 := (foldl_max_ge (g := fun j => dR sc k j + 1) (l := sc p) (a := 1)).2 q hq
    have h3 := InfD.ring h k q hc
    simp only [dR] at h1 h2 ⊢
    omega
/-- A stack, the last first: each is ahead of by the one below. -/
def PathD (sc : Nat → List Nat) : List Nat → Prop
  | a :: b :: l => a ∈ sc b ∧ PathD sc (b :: l)
  | _ => True
theorem PathD.at {sc : Nat → List Nat} : ∀ {st : List Nat} {a p q : Nat}, PathD sc st → st[a]? = some p → st[a + 1]? = some q → p ∈ sc q
  | [], a, p, q, _, h, _ => by simp at h
  | [x], a, p, q, _, _, h => by simp at h
  | x :: y :: l, 0, p, q, h, h1, h2 => by simp at h1 h2; subst h1; subst h2; exact h.1
  | x :: y :: l, a + 1, p, q, h, h1, h2 => PathD.at (st := y :: l) (a := a) h.2 (by simpa using h1) (by simpa using h2)
theorem PathD.ring {sc : Nat → List Nat} {st : List Nat} {b i : Nat} (h : PathD sc (b :: st)) (hb : i ∈ sc b) (hi : i ∈ b :: st) : InfD sc i := by
  obtain ⟨m, hm⟩ := List.getElem?_of_mem hi
  intro k
  refine InfD.ring (C := fun p => ∃ a, a ≤ m ∧ (b :: st)[a]? = some p) ?_ k i ⟨m, Nat.le_refl _, hm⟩
  rintro p ⟨a, ha, hp⟩
  cases a with
  | zero =>
    simp at hp; subst hp
    exact ⟨i, hb, m, Nat.le_refl _, hm⟩
  | succ a =>
    have hlt := (List.getElem?_eq_some_iff.1 hp).1
    obtain ⟨q, hq⟩ : ∃ q, (b :: st)[a]? = some q := ⟨(b :: st)[a]'(by omega), by rw [List.getElem?_eq_getElem]⟩
    exact ⟨q, h.at hq hp, a, by omega, hq⟩
/-- Where a stack's top may go: any node from the empty one. -/
def TopD (sc : Nat → List Nat) (st : List Nat) (i : Nat) : Prop := PathD sc (i :: st)
theorem TopD.ring {sc : Nat → List Nat} {st : List Nat} {i : Nat} (h : TopD sc st i) (hi : i ∈ st) : InfD sc i := by
  cases st with
  | nil => cases hi
  | cons b l => exact PathD.ring h.2 h.1 hi
def cz (s : List Int) : Nat := s.countP fun v => decide (v = 0)
def cp (s : List Int) : Nat := s.countP fun v => decide (0 < v)
structure InvD (sc : Nat → List Nat) (n : Nat) (s : List Int) (st : List Nat) : Prop where
  len : s.length = 128
  on : ∀ j, j ∈ st ↔ s[j]? = some (-1)
  vals : ∀ (j : Nat) (v : Int), s[j]? = some v → v = 0 ∨ v = -1 ∨ ∃ d : Nat, v = (d : Int) ∧ FinD sc j d ∧ d ≤ cp s
  out : ∀ (j : Nat) (v : Int), n ≤ j → s[j]? = some v → v = 0
theorem cz_set {s : List Int} {i : Nat} {v w : Int} (h : s[i]? = some v) : cz (s.set i w) = cz s - (if v = 0 then 1 else 0) + (if w = 0 then 1 else 0) := by
  obtain ⟨h1, h2⟩ := List.getElem?_eq_some_iff.1 h
  unfold cz
  rw [List.countP_set h1, h2]
  simp
theorem cp_set {s : List Int} {i : Nat} {v w : Int} (h : s[i]? = some v) : cp (s.set i w) = cp s - (if 0 < v then 1 else 0) + (if 0 < w then 1 else 0) := by
  obtain ⟨h1, h2⟩ := List.getElem?_eq_some_iff.1 h
  unfold cp
  rw [List.countP_set h1, h2]
  simp
theorem InvD.push {sc : Nat → List Nat} {n : Nat} {s : List Int} {st : List Nat} {i : Nat} (h : InvD sc n s st) (hi : s[i]? = some 0) (hn : i < n) :
    InvD sc n (s.set i (-1)) (i :: st) ∧ cz (s.set i (-1)) + 1 = cz s ∧ cp (s.set i (-1)) = cp s := by
  have hlt := (List.getElem?_eq_some_iff.1 hi).1
  have e1 := cz_set (w := -1) hi
  have e2 := cp_set (w := -1) hi
  have hpos : 0 < cz s := by
    unfold cz
    rw [List.countP_pos_iff]
    exact ⟨0, List.mem_of_getElem? hi, by simp⟩
  simp at e1 e2
  refine ⟨⟨by simpa using h.len, fun j => ?_, fun j v hv => ?_, fun j v hj hv => ?_⟩, by omega, e2⟩
  · rw [List.getElem?_set, List.mem_cons]
    by_cases e : i = j
    · subst e; simp [hlt]
    · rw [if_neg e, h.on j]
      constructor
      · rintro (e' | e')
        · exact absurd e'.symm e
        · exact e'
      · exact .inr
  · rw [List.getElem?_set] at hv
    by_cases e : i = j
    · subst e; simp [hlt] at hv; exact .inr (.inl hv.symm)
    · rw [if_neg e] at hv
      rw [e2]
      exact h.vals j v hv
  · rw [List.getElem?_set, if_neg (by omega)] at hv
    exact h.out j v hj hv
theorem InvD.pop {sc : Nat → List Nat} {n : Nat} {s : List Int} {st : List Nat} {i d : Nat} (h : InvD sc n s (i :: st)) (hi : i ∉ st) (hn : i < n) (hf : FinD sc i d) (hd : d ≤ cp s + 1) :
    InvD sc n (s.set i (d : Int)) st ∧ cz (s.set i (d : Int)) = cz s ∧ cp (s.set i (d : Int)) = cp s + 1 := by
  have h1 : s[i]? = some (-1) := (h.on i).1 (by simp)
  have hlt := (List.getElem?_eq_some_iff.1 h1).1
  have e1 := cz_set (w := (d : Int)) h1
  have e2 := cp_set (w := (d : Int)) h1
  have hd1 := hf.1
  rw [if_neg (by omega), if_neg (by omega)] at e1
  rw [if_neg (by omega), if_pos (by omega)] at e2
  refine ⟨⟨by simpa using h.len, fun j => ?_, fun j v hv => ?_, fun j v hj hv => ?_⟩, by omega, by omega⟩
  · rw [List.getElem?_set]
    by_cases e : i = j
    · subst e
      simp only [hlt, if_true]
      constructor
      · intro hm; exact absurd hm hi
      · intro hm; simp at hm
    · rw [if_neg e, ← h.on j, List.mem_cons]
      constructor
      · exact .inr
      · rintro (e' | e')
        · exact absurd e'.symm e
        · exact e'
  · rw [List.getElem?_set] at hv
    by_cases e : i = j
    · subst e
      simp only [hlt, if_true, Option.some.injEq] at hv
      exact .inr (.inr ⟨d, hv.symm, hf, by omega⟩)
    · rw [if_neg e] at hv
      rcases h.vals j v hv with h' | h' | ⟨d', h1, h2, h3⟩
      · exact .inl h'
      · exact .inr (.inl h')
      · exact .inr (.inr ⟨d', h1, h2, by omega⟩)
  · rw [List.getElem?_set, if_neg (by omega)] at hv
    exact h.out j v hj hv
theorem cp_le {n : Nat} {s : List Int} (h : ∀ (j : Nat) (v : Int), n ≤ j → s[j]? = some v → v = 0) : cp s ≤ n := by
  have e : s = s.take n ++ s.drop n := (List.take_append_drop n s).symm
  unfold cp
  rw [e, List.countP_append]
  have h1 : (s.take n).countP (fun v => decide (0 < v)) ≤ n := Nat.le_trans List.countP_le_length (by rw [List.length_take]; omega)
  have h2 : (s.drop n).countP (fun v => decide (0 < v)) = 0 := by
    rw [List.countP_eq_zero]
    intro v hv
    obtain ⟨j, hj⟩ := List.getElem?_of_mem hv
    rw [List.getElem?_drop] at hj
    have := h (n + j) v (by omega) hj
    simp [this]
  omega
/-- The two agree. -/
theorem depth_is {sc : Nat → List Nat} {i n d : Nat} (hf : FinD sc i d) (hd : d ≤ n) : dR sc (n + 1) i = d := by rw [hf.2]; omega
end Go.Proofs.YtmdkcapbahjipaaDoor.Ag
namespace Go.Proofs.YtmdkcapbahjipaaDoor.Ag
attribute [-go_sem] Int.not_lt Int.not_le
def cellI (n : Int) : TV := .iv (.int .i64 n)
def deepArgs (t : List Ty) (i : Int) (v0 v1 : Nat) : List TV := [.iv (.int .i64 i), .loc 0 v0 0, .iv (.ref (encTable t)), .loc 1 v1 0]
def deepFn (t : List Ty) (v0 v1 : Nat) : TV := .fn (.func 52) [] [.loc 0 v0 0, .iv (.ref (encTable t)), .loc 1 v1 0]
def DeepQ (sc : Nat → List Nat) (n : Nat) (s : List Int) (st : List Nat) (i v0 : Nat) (σ : Slots) (r : TV) (σ' : Slots) : Prop := ∃ s' : List Int, lk σ' 0 = some (v0, .box (s'.map cellI)) ∧ lk σ' 1 = lk σ 1 ∧ s'.length = 128 ∧
  ((r = .iv (.int .i64 (-2)) ∧ InfD sc i) ∨ ∃ d : Nat, r = .iv (.int .i64 (d : Int)) ∧ FinD sc i d ∧ InvD sc n s' st ∧ d ≤ cp s' ∧ cp s ≤ cp s' ∧ cz s' ≤ cz s)
noncomputable def envDp : Env := { split := true, gr := [(52, fun vs σ Q => GC Tryd.prog 52 vs σ Q)] }
theorem callOk52 : callOk Tryd.prog 52 = true := by kernel_rfl
theorem envDp_ok : EnvOk Tryd.prog envDp := EnvOk.noneS.addR callOk52
theorem box_set {s : List Int} {i : Nat} (w : Int) (h : i < s.length) : (s.map cellI).take i ++ [TV.iv (.int .i64 w)] ++ (s.map cellI).drop (i + 1) = (s.set i w).map cellI := by
  rw [List.map_set, List.set_eq_take_append_cons_drop, if_pos (by simpa using h)]
  simp [cellI]
theorem box_at {s : List Int} {i : Nat} {v : Int} (h : s[i]? = some v) : (s.map cellI)[i]? = some (TV.iv (.int .i64 v)) := by
  rw [List.getElem?_map, h]; rfl
def sl (l : List FT) : List Nat := (l.filter fun f => decide (f.kind = 17)).map fun f => f.ref.toNat
theorem sl_snoc (l : List FT) (f : FT) : sl (l ++ [f]) = if f.kind = 17 then sl l ++ [f.ref.toNat] else sl l := by
  unfold sl
  rw [List.filter_append, List.map_append]
  by_cases e : f.kind = 17 <;> simp [e]
theorem sl_mem {l : List FT} {f : FT} (h : f ∈ l) (hk : f.kind = 17) : f.ref.toNat ∈ sl l := List.mem_map_of_mem (List.mem_filter.2 ⟨h, by simpa using hk⟩)
def succs (t : List Ty) (i : Nat) : List Nat := match t[i]? with
  | some x => sl x.fields
  | none => []
def RefsOk (t : List Ty) : Prop := ∀ (i : Nat) (x : Ty), t[i]? = some x → x.fields.length ≤ 2000000 ∧ ∀ f ∈ x.fields, f.kind = 17 → 0 ≤ f.ref ∧ f.ref < t.length
def DpI (t : List Ty) (x : Ty) (i : Nat) (s : List Int) (st : List Nat) (v0 v1 : Nat) (n : Nat) (a : St) : Prop := ∃ (j most : Nat) (s' : List Int), lk a.ρ 0 = some (.iv (.int .i64 (i : Int))) ∧ lk a.ρ 1 = some (.loc 0 v0 0) ∧ lk a.ρ 2 = some (.iv (.ref (encTable t))) ∧ lk a.ρ 3 = some (.loc 1 v1 0) ∧
  lk a.ρ 6 = some (.iv (.int .i64 (most : Int))) ∧ lk a.ρ 31 = some (.iv (.int .i64 (x.fields.length : Int))) ∧ lk a.ρ 32 = some (.iv (.int .i64 (j : Int))) ∧
  lk a.σ 0 = some (v0, .box (s'.map cellI)) ∧ lk a.σ 1 = some (v1, .box [deepFn t v0 v1]) ∧
  InvD (succs t) t.length s' (i :: st) ∧ FinL (succs t) (sl (x.fields.take j)) most ∧ most ≤ cp s' ∧ cp s ≤ cp s' ∧ cz s' + 1 ≤ cz s ∧ j ≤ x.fields.length ∧ x.fields.length < j + n
theorem deep_gc (t : List Ty) (ht : t.length ≤ 128) (hr : RefsOk t) : ∀ (m i : Nat) (s : List Int) (st : List Nat) (v0 v1 : Nat) (σ : Slots), cz s < m → InvD (succs t) t.length s st → TopD (succs t) st i → i < t.length →
    lk σ 0 = some (v0, .box (s.map cellI)) → lk σ 1 = some (v1, .box [deepFn t v0 v1]) →
    GC Tryd.prog 52 (deepArgs t i v0 v1) σ (DeepQ (succs t) t.length s st i v0 σ) := by
  intro m
  induction m with
  | zero => intro i s st v0 v1 σ h; exact absurd h (Nat.not_lt_zero _)
  | succ m IH =>
  intro i s st v0 v1 σ hcz hI hT hin h0 h1
  have hl := hI.len
  have hlt : i < 128 := by omega
  obtain ⟨v, hs⟩ : ∃ v, s[i]? = some v := ⟨s[i]'(by omega), by rw [List.getElem?_eq_getElem]⟩
  obtain ⟨x, hx⟩ : ∃ x, t[i]? = some x := ⟨t[i]'(by omega), by rw [List.getElem?_eq_getElem]⟩
  have hsc : succs t i = sl x.fields := by unfold succs; rw [hx]
  have hxl := (hr i x hx).1
  have hlti : (i : Int) < 128 := by omega
  have hlit : (i : Int) < (t.length : Int) := by omega
  have hle : i ≤ 127 := by omega
  have hls : i < s.length := by omega
  have hm := box_at hs
  have hmx := get_map (f := encTy) hx
  simp only [encTy] at hmx
  have hset := fun w => box_set w hls
  refine GC.vc envDp_ok F_table_Depths_1_d T_table_Depths_1_d L_table_Depths_1_d ?_
  unfold A_table_Depths_1_d; simp only [deepArgs, args0, List.map_cons, List.map_nil, List.zipIdx_cons, List.zipIdx_nil, Nat.reduceAdd]
  by_cases e1 : v = -1
  · subst e1
    have hm2 : ((s.set i (-2)).map cellI)[i]? = some (TV.iv (.int .i64 (-2))) := box_at (by simp [hls])
    have hin2 := hT.ring ((hI.on i).2 hs)
    (simp -implicitDefEqProofs +contextual (maxSteps := 8000000) only [go_sem, ↓reduceIte, Nat.reduceEqDiff, Nat.reduceAdd, Nat.reduceSub, Nat.reduceLeDiff, Nat.reduceMul, reduceCtorEq, Nat.reduceBEq, Int.reduceLT, Int.reduceLE, Int.reduceNeg, Int.reduceEq, Int.reduceToNat, Nat.reducePow, Nat.reduceLT, Nat.reduceDiv, Nat.reduceMod, envDp, h0, h1, hm, hl, hlt, hlti, hle, hset, hm2, Nat.zero_add, List.length_map, List.length_set])
    exact ⟨s.set i (-2), by simp [lk_upd], by simp [lk_upd], by simpa using hl, .inl ⟨rfl, hin2⟩⟩
  · by_cases e2 : v = 0
    · subst e2
      obtain ⟨hI2, hc1, hc2⟩ := hI.push hs hin
      have hnst : i ∉ st := fun h => by have := (hI.on i).1 h; rw [hs] at this; simp at this
      (simp -implicitDefEqProofs +contextual (maxSteps := 8000000) only [go_sem, ↓reduceIte, Nat.reduceEqDiff, Nat.reduceAdd, Nat.reduceSub, Nat.reduceLeDiff, Nat.reduceMul, reduceCtorEq, Nat.reduceBEq, Int.reduceLT, Int.reduceLE, Int.reduceNeg, Int.reduceEq, Int.reduceToNat, Nat.reducePow, Nat.reduceLT, Nat.reduceDiv, Nat.reduceMod, envDp, encTable, h0, h1, hm, hmx, hl, hlt, hlti, hlit, hin, hle, hset, Nat.zero_add, List.length_map, List.length_set, forall_eq'])
      refine vc_loop (DpI t x i s st v0 v1) (x.fields.length + 1) ⟨0, 0, s.set i (-1), by simp [lk], by simp [lk], by simp [lk, encTable], by simp [lk], by simp [lk], by simp [lk], by simp [lk], by simp [lk_upd], by simp [lk_upd, h1], hI2, by simpa [sl] using FinL.nil _, by omega, by omega, by omega, by omega, by omega⟩ ?_
      have hsi := hI2
      rintro n a ⟨j, most, s', p0, p1, p2, p3, p6, p31, p32, k0, k1, hI', hF, g1, g2, g3, g4, g5⟩
      simp only [encTable] at p2
      have hl' := hI'.len
      have hls' : i < s'.length := by omega
      have hset' := fun w => box_set w hls'
      have hcp := cp_le hI'.out
      by_cases hj : j < x.fields.length
      · obtain ⟨f, hf⟩ : ∃ f, x.fields[j]? = some f := ⟨x.fields[j], by simp [hj]⟩
        have hmf := get_map (f := encFT) hf
        simp only [encFT] at hmf
        have hw := wrap1 hj (by omega)
        have hltj : (j : Int) < (x.fields.length : Int) := by omega
        have et : x.fields.take (j + 1) = x.fields.take j ++ [f] := by rw [List.take_add_one, hf]; rfl
        by_cases ek : f.kind = 17
        · obtain ⟨hr0, hr1⟩ := (hr i x hx).2 f (List.mem_of_getElem? hf) ek
          obtain ⟨r, hrr⟩ := Int.eq_ofNat_of_zero_le hr0
          have hmem : r ∈ succs t i := by rw [hsc]; have := sl_mem (List.mem_of_getElem? hf) ek; rwa [hrr] at this
          have hT' : TopD (succs t) (i :: st) r := ⟨hmem, hT⟩
          rw [hrr, ek] at hmf
          rcases hz : lk a.σ 80 with _ | ⟨v8, it8⟩
          all_goals
            (simp -implicitDefEqProofs +contextual (maxSteps := 8000000) only [go_sem, ↓reduceIte, Nat.reduceEqDiff, Nat.reduceAdd, Nat.reduceSub, Nat.reduceLeDiff, Nat.reduceMul, reduceCtorEq, Nat.reduceBEq, Int.reduceLT, Int.reduceLE, Int.reduceNeg, Int.reduceEq, Int.reduceToNat, Nat.reducePow, Nat.reduceLT, Nat.reduceDiv, Nat.reduceMod, envDp, deepFn, encTable, p0, p1, p2, p3, p6, p31, p32, k0, k1, hz, hmx, hin, hlit, hmf, hj, hltj, hw, nxt, Nat.zero_add, List.length_map, forall_eq'])
            refine vcEx_mk (DeepQ (succs t) t.length s' (i :: st) r v0 _) (IH r s' (i :: st) v0 v1 _ (by omega) hI' hT' (by omega) (by simp [lk_upd, k0]) (by simp [lk_upd, k1])) ?_
            rintro res σ2 ⟨s2, q0, q1, q2, hcase⟩
            simp [lk_upd, k1] at q1
            have hls2 : i < s2.length := by omega
            have hset2 := fun w => box_set w hls2
            rcases hcase with ⟨rfl, hinf⟩ | ⟨d, rfl, hf2, hI3, c1, c2, c3⟩
            · (simp -implicitDefEqProofs +contextual (maxSteps := 8000000) only [go_sem, ↓reduceIte, Nat.reduceEqDiff, Nat.reduceAdd, Nat.reduceSub, Nat.reduceLeDiff, Nat.reduceMul, reduceCtorEq, Nat.reduceBEq, Int.reduceLT, Int.reduceLE, Int.reduceNeg, Int.reduceEq, Int.reduceToNat, Nat.reducePow, Nat.reduceLT, Nat.reduceDiv, Nat.reduceMod, envDp, deepFn, encTable, p0, p1, p2, p3, p6, p31, p32, q0, q1, q2, hset2, hltj, hlt, hlti, hle, nxt, Nat.zero_add, List.length_map, List.length_set])
              exact ⟨s2.set i (-2), by simp [lk_upd], by simp [lk_upd, q1, h1], by simpa using q2, .inl ⟨rfl, hinf.step hmem⟩⟩
            · have hd2 : ¬ (d : Int) = -2 := by omega
              by_cases hmd : (most : Int) < (d : Int)
              · have hmax : max most d = d := by omega
                (simp -implicitDefEqProofs +contextual (maxSteps := 8000000) only [go_sem, ↓reduceIte, Nat.reduceEqDiff, Nat.reduceAdd, Nat.reduceSub, Nat.reduceLeDiff, Nat.reduceMul, reduceCtorEq, Nat.reduceBEq, Int.reduceLT, Int.reduceLE, Int.reduceNeg, Int.reduceEq, Int.reduceToNat, Nat.reducePow, Nat.reduceLT, Nat.reduceDiv, Nat.reduceMod, envDp, deepFn, encTable, p0, p1, p2, p3, p6, p31, p32, q0, q1, q2, hd2, hmd, hw, nxt, Nat.zero_add, List.length_map, List.length_set])
                exact ⟨n - 1, by omega, j + 1, d, s2, by simp [lk, p0], by simp [lk, p1], by simp [lk, p2, encTable], by simp [lk, p3], by simp [lk], by simp [lk, p31], by simp [lk], by simp [q0], by simp [q1, deepFn, encTable], hI3, by rw [et, sl_snoc, if_pos ek, hrr, ← hmax]; exact hF.snoc hf2, by omega, by omega, by omega, by omega, by omega⟩
              · have hmax : max most d = most := by omega
                (simp -implicitDefEqProofs +contextual (maxSteps := 8000000) only [go_sem, ↓reduceIte, Nat.reduceEqDiff, Nat.reduceAdd, Nat.reduceSub, Nat.reduceLeDiff, Nat.reduceMul, reduceCtorEq, Nat.reduceBEq, Int.reduceLT, Int.reduceLE, Int.reduceNeg, Int.reduceEq, Int.reduceToNat, Nat.reducePow, Nat.reduceLT, Nat.reduceDiv, Nat.reduceMod, envDp, deepFn, encTable, p0, p1, p2, p3, p6, p31, p32, q0, q1, q2, hd2, hmd, hw, nxt, Nat.zero_add, List.length_map, List.length_set])
                exact ⟨n - 1, by omega, j + 1, most, s2, by simp [lk, p0], by simp [lk, p1], by simp [lk, p2, encTable], by simp [lk, p3], by simp [lk], by simp [lk, p31], by simp [lk], by simp [q0], by simp [q1, deepFn, encTable], hI3, by rw [et, sl_snoc, if_pos ek, hrr, ← hmax]; exact hF.snoc hf2, by omega, by omega, by omega, by omega, by omega⟩
        · rcases hz : lk a.σ 80 with _ | ⟨v8, it8⟩
          all_goals
            (simp -implicitDefEqProofs +contextual (maxSteps := 8000000) only [go_sem, ↓reduceIte, Nat.reduceEqDiff, Nat.reduceAdd, Nat.reduceSub, Nat.reduceLeDiff, Nat.reduceMul, reduceCtorEq, Nat.reduceBEq, Int.reduceLT, Int.reduceLE, Int.reduceNeg, Int.reduceEq, Int.reduceToNat, Nat.reducePow, Nat.reduceLT, Nat.reduceDiv, Nat.reduceMod, envDp, encTable, p0, p1, p2, p3, p6, p31, p32, k0, k1, hz, hmx, hin, hlit, hmf, hj, hltj, hw, ek, nxt, Nat.zero_add, List.length_map, forall_eq'])
            exact ⟨n - 1, by omega, j + 1, most, s', by simp [lk, p0], by simp [lk, p1], by simp [lk, p2, encTable], by simp [lk, p3], by simp [lk, p6], by simp [lk, p31], by simp [lk], by simp [lk_upd, k0], by simp [lk_upd, k1], hI', by rw [et, sl_snoc, if_neg ek]; exact hF, g1, g2, g3, by omega, by omega⟩
      · have hltj : ¬ (j : Int) < (x.fields.length : Int) := by omega
        rw [List.take_of_length_le (by omega), ← hsc] at hF
        have hs' := (hI'.on i).1 (by simp)
        have hm' := box_at hs'
        have hwm : IntKind.i64.wrap ((most : Int) + 1) = ((most + 1 : Nat) : Int) := by rw [wrap_i64 (by omega) (by omega)]; omega
        have hm3 : ((s'.set i ((most + 1 : Nat) : Int)).map cellI)[i]? = some (TV.iv (.int .i64 ((most + 1 : Nat) : Int))) := box_at (by simp [hls'])
        obtain ⟨hI4, z1, z2⟩ := hI'.pop hnst hin hF.fin (by omega)
        (simp -implicitDefEqProofs +contextual (maxSteps := 8000000) only [go_sem, ↓reduceIte, Nat.reduceEqDiff, Nat.reduceAdd, Nat.reduceSub, Nat.reduceLeDiff, Nat.reduceMul, reduceCtorEq, Nat.reduceBEq, Int.reduceLT, Int.reduceLE, Int.reduceNeg, Int.reduceEq, Int.reduceToNat, Nat.reducePow, Nat.reduceLT, Nat.reduceDiv, Nat.reduceMod, envDp, p0, p1, p2, p3, p6, p31, p32, k0, k1, hltj, hm', hwm, hm3, hset', hl', hlt, hlti, hle, Nat.zero_add, List.length_map, List.length_set])
        exact ⟨s'.set i ((most + 1 : Nat) : Int), by simp [lk_upd], by simp [lk_upd, k1, h1], by simpa using hl', .inr ⟨most + 1, rfl, hF.fin, hI4, by omega, by omega, by omega⟩⟩
    · (simp -implicitDefEqProofs +contextual (maxSteps := 8000000) only [go_sem, ↓reduceIte, Nat.reduceEqDiff, Nat.reduceAdd, Nat.reduceSub, Nat.reduceLeDiff, Nat.reduceMul, reduceCtorEq, Nat.reduceBEq, Int.reduceLT, Int.reduceLE, Int.reduceNeg, Int.reduceEq, Int.reduceToNat, Nat.reducePow, Nat.reduceLT, Nat.reduceDiv, Nat.reduceMod, envDp, h0, h1, hm, hl, hlt, hlti, hle, Nat.zero_add, List.length_map, e1, e2])
      rcases hI.vals i v hs with h | h | ⟨d, rfl, hf, hd⟩
      · exact absurd h e2
      · exact absurd h e1
      · exact ⟨s, h0, rfl, hl, .inr ⟨d, rfl, hf, hI, hd, Nat.le_refl _, Nat.le_refl _⟩⟩
end Go.Proofs.YtmdkcapbahjipaaDoor.Ag
namespace Go.Proofs.YtmdkcapbahjipaaDoor.Ag
def syF (l : List Sym) (n : Int) : Option Sym := l.find? fun s => decide (s.num = n)
def syN (l : List Sym) (name : ByteArray) : Option Sym := l.find? fun s => decide (s.name = name)
def orS (o : Option Sym) (a b : IV) : IV := match o with
  | some s => .tup [.str s.name, a]
  | none => .tup [.str ⟨#[]⟩, b]
def orN (o : Option Sym) (a b : IV) : IV := match o with
  | some s => .tup [.int .i64 s.num, a]
  | none => .tup [.int .i64 0, b]
def SaI (x : Ty) (num : Int) (n : Nat) (st : St) : Prop := ∃ i : Nat, lk st.ρ 1 = some (.iv (.int .i64 num)) ∧ lk st.ρ 9 = some (.iv (.slice (x.syms.map encSym))) ∧ lk st.ρ 10 = some (.iv (.int .i64 (x.syms.length : Int))) ∧ lk st.ρ 11 = some (.iv (.int .i64 (i : Int))) ∧
  i ≤ x.syms.length ∧ x.syms.length < i + n ∧ ∀ z ∈ x.syms.take i, decide (z.num = num) = false
theorem SymbolAt_fc (x : Ty) (num : Int) (hl : x.syms.length ≤ 2000000) : FC Tryd.prog i_table_SymbolAt [encTy x, .int .i64 num] (· = orS (syF x.syms num) (.bool true) (.bool false)) := by
  (refine FC.vc (envNoS_ok) F_table_SymbolAt T_table_SymbolAt L_table_SymbolAt ?_; unfold A_table_SymbolAt; simp only [args0, List.map_cons, List.map_nil, List.zipIdx_cons, List.zipIdx_nil, Nat.reduceAdd])
  (simp -implicitDefEqProofs +contextual (maxSteps := 8000000) only [go_sem, ↓reduceIte, Nat.reduceEqDiff, Nat.reduceAdd, Nat.reduceSub, Nat.reduceLeDiff, Nat.reduceMul, reduceCtorEq, Nat.reduceBEq, Int.reduceLT, Int.reduceLE, Int.reduceNeg, Int.reduceEq, Int.reduceToNat, Nat.reducePow, Nat.reduceLT, Nat.reduceDiv, Nat.reduceMod, encTy, envNoS])
  refine vc_loop (SaI x num) (x.syms.length + 1) ⟨0, by simp [lk], by simp [lk], by simp [lk], by simp [lk], by omega, by omega, by simp⟩ ?_
  rintro n st ⟨j, h1, h9, h10, h11, g1, g2, g3⟩
  by_cases hj : j < x.syms.length
  · obtain ⟨f, hf⟩ : ∃ f, x.syms[j]? = some f := ⟨x.syms[j], by simp [hj]⟩
    have hmf := get_map (f := encSym) hf
    simp only [encSym] at hmf
    have hw := wrap1 hj (by omega)
    have hlt : (j : Int) < (x.syms.length : Int) := by omega
    by_cases e1 : f.num = num
    · have hs : syF x.syms num = some f := find_at g3 hf (by simpa using e1)
      rw [hs]
      unfold orS
      rcases hz : lk st.σ 0 with _ | ⟨v0, it0⟩
      all_goals
        (simp -implicitDefEqProofs +contextual (maxSteps := 8000000) only [go_sem, ↓reduceIte, Nat.reduceEqDiff, Nat.reduceAdd, Nat.reduceSub, Nat.reduceLeDiff, Nat.reduceMul, reduceCtorEq, Nat.reduceBEq, Int.reduceLT, Int.reduceLE, Int.reduceNeg, Int.reduceEq, Int.reduceToNat, Nat.reducePow, Nat.reduceLT, Nat.reduceDiv, Nat.reduceMod, envNoS, h1, h9, h10, h11, hj, hlt, hmf, hw, hz, e1, forall_eq'])
    · rcases hz : lk st.σ 0 with _ | ⟨v0, it0⟩
      all_goals
        (simp -implicitDefEqProofs +contextual (maxSteps := 8000000) only [go_sem, ↓reduceIte, Nat.reduceEqDiff, Nat.reduceAdd, Nat.reduceSub, Nat.reduceLeDiff, Nat.reduceMul, reduceCtorEq, Nat.reduceBEq, Int.reduceLT, Int.reduceLE, Int.reduceNeg, Int.reduceEq, Int.reduceToNat, Nat.reducePow, Nat.reduceLT, Nat.reduceDiv, Nat.reduceMod, envNoS, h1, h9, h10, h11, hj, hlt, hmf, hw, hz, e1, forall_eq'])
        exact ⟨n - 1, by omega, j + 1, by simp [lk, h1], by simp [lk, h9], by simp [lk, h10], by simp [lk], by omega, by omega, take_all2 g3 hf (by simpa using e1)⟩
  · have hlt : ¬ (j : Int) < (x.syms.length : Int) := by omega
    rw [List.take_of_length_le (by omega)] at g3
    have hs : syF x.syms num = none := find_no g3
    rw [hs]
    unfold orS
    (simp -implicitDefEqProofs +contextual (maxSteps := 8000000) only [go_sem, ↓reduceIte, Nat.reduceEqDiff, Nat.reduceAdd, Nat.reduceSub, Nat.reduceLeDiff, Nat.reduceMul, reduceCtorEq, Nat.reduceBEq, Int.reduceLT, Int.reduceLE, Int.reduceNeg, Int.reduceEq, Int.reduceToNat, Nat.reducePow, Nat.reduceLT, Nat.reduceDiv, Nat.reduceMod, envNoS, h1, h9, h10, h11, hj, hlt])
def RsyI (x : Ty) (num : Int) (n : Nat) (st : St) : Prop := ∃ i : Nat, lk st.ρ 2 = some (.iv (.int .i64 num)) ∧ lk st.ρ 8 = some (.iv (.slice (x.syms.map encSym))) ∧ lk st.ρ 9 = some (.iv (.int .i64 (i : Int))) ∧
  i ≤ x.syms.length ∧ x.syms.length < i + n ∧ ∀ z ∈ x.syms.take i, decide (z.num = num) = false
theorem ref7_Symbol_fc (t : List Ty) (i : Nat) (x : Ty) (num : Int) (hx : t[i]? = some x) (hl : x.syms.length ≤ 2000000) : FC Tryd.prog i_cartoucheref7_Symbol [encTable t, .int .i64 (i : Int), .int .i64 num] (· = orS (syF x.syms num) (.bool true) (.bool false)) := by
  have hm := get_map (f := encTy) hx
  simp only [encTy] at hm
  have hil := (List.getElem?_eq_some_iff.1 hx).1
  have hili : (i : Int) < (t.length : Int) := by omega
  (refine FC.vc (envNoS_ok) F_cartoucheref7_Symbol T_cartoucheref7_Symbol L_cartoucheref7_Symbol ?_; unfold A_cartoucheref7_Symbol; simp only [args0, List.map_cons, List.map_nil, List.zipIdx_cons, List.zipIdx_nil, Nat.reduceAdd])
  (simp -implicitDefEqProofs +contextual (maxSteps := 8000000) only [go_sem, ↓reduceIte, Nat.reduceEqDiff, Nat.reduceAdd, Nat.reduceSub, Nat.reduceLeDiff, Nat.reduceMul, reduceCtorEq, Nat.reduceBEq, Int.reduceLT, Int.reduceLE, Int.reduceNeg, Int.reduceEq, Int.reduceToNat, Nat.reducePow, Nat.reduceLT, Nat.reduceDiv, Nat.reduceMod, encTable, envNoS, hm, hil, hili, forall_eq'])
  refine vc_loop (RsyI x num) (x.syms.length + 1) ⟨0, by simp [lk], by simp [lk], by simp [lk], by omega, by omega, by simp⟩ ?_
  rintro n st ⟨j, h2, h8, h9, g1, g2, g3⟩
  by_cases hj : j < x.syms.length
  · obtain ⟨f, hf⟩ : ∃ f, x.syms[j]? = some f := ⟨x.syms[j], by simp [hj]⟩
    have hmf := get_map (f := encSym) hf
    simp only [encSym] at hmf
    have hw := wrap1 hj (by omega)
    have hlt : (j : Int) < (x.syms.length : Int) := by omega
    by_cases e1 : f.num = num
    · have hs : syF x.syms num = some f := find_at g3 hf (by simpa using e1)
      rw [hs]
      unfold orS
      (simp -implicitDefEqProofs +contextual (maxSteps := 8000000) only [go_sem, ↓reduceIte, Nat.reduceEqDiff, Nat.reduceAdd, Nat.reduceSub, Nat.reduceLeDiff, Nat.reduceMul, reduceCtorEq, Nat.reduceBEq, Int.reduceLT, Int.reduceLE, Int.reduceNeg, Int.reduceEq, Int.reduceToNat, Nat.reducePow, Nat.reduceLT, Nat.reduceDiv, Nat.reduceMod, envNoS, h2, h8, h9, hj, hlt, hmf, hw, e1, forall_eq'])
    · (simp -implicitDefEqProofs +contextual (maxSteps := 8000000) only [go_sem, ↓reduceIte, Nat.reduceEqDiff, Nat.reduceAdd, Nat.reduceSub, Nat.reduceLeDiff, Nat.reduceMul, reduceCtorEq, Nat.reduceBEq, Int.reduceLT, Int.reduceLE, Int.reduceNeg, Int.reduceEq, Int.reduceToNat, Nat.reducePow, Nat.reduceLT, Nat.reduceDiv, Nat.reduceMod, envNoS, h2, h8, h9, hj, hlt, hmf, hw, e1, forall_eq'])
      exact ⟨n - 1, by omega, j + 1, by simp [lk, h2], by simp [lk, h8], by simp [lk], by omega, by omega, take_all2 g3 hf (by simpa using e1)⟩
  · have hlt : ¬ (j : Int) < (x.syms.length : Int) := by omega
    rw [List.take_of_length_le (by omega)] at g3
    have hs : syF x.syms num = none := find_no g3
    rw [hs]
    unfold orS
    (simp -implicitDefEqProofs +contextual (maxSteps := 8000000) only [go_sem, ↓reduceIte, Nat.reduceEqDiff, Nat.reduceAdd, Nat.reduceSub, Nat.reduceLeDiff, Nat.reduceMul, reduceCtorEq, Nat.reduceBEq, Int.reduceLT, Int.reduceLE, Int.reduceNeg, Int.reduceEq, Int.reduceToNat, Nat.reducePow, Nat.reduceLT, Nat.reduceDiv, Nat.reduceMod, envNoS, h2, h8, h9, hj, hlt])
def RsnI (x : Ty) (name : ByteArray) (n : Nat) (st : St) : Prop := ∃ i : Nat, lk st.ρ 2 = some (.iv (.str name)) ∧ lk st.ρ 8 = some (.iv (.slice (x.syms.map encSym))) ∧ lk st.ρ 9 = some (.iv (.int .i64 (i : Int))) ∧
  i ≤ x.syms.length ∧ x.syms.length < i + n ∧ ∀ z ∈ x.syms.take i, decide (z.name = name) = false
theorem ref7_Number_fc (t : List Ty) (i : Nat) (x : Ty) (name : ByteArray) (hx : t[i]? = some x) (hl : x.syms.length ≤ 2000000) : FC Tryd.prog i_cartoucheref7_Number [encTable t, .int .i64 (i : Int), .str name] (· = orN (syN x.syms name) (.bool true) (.bool false)) := by
  have hm := get_map (f := encTy) hx
  simp only [encTy] at hm
  have hil := (List.getElem?_eq_some_iff.1 hx).1
  have hili : (i : Int) < (t.length : Int) := by omega
  (refine FC.vc (envNoS_ok) F_cartoucheref7_Number T_cartoucheref7_Number L_cartoucheref7_Number ?_; unfold A_cartoucheref7_Number; simp only [args0, List.map_cons, List.map_nil, List.zipIdx_cons, List.zipIdx_nil, Nat.reduceAdd])
  (simp -implicitDefEqProofs +contextual (maxSteps := 8000000) only [go_sem, ↓reduceIte, Nat.reduceEqDiff, Nat.reduceAdd, Nat.reduceSub, Nat.reduceLeDiff, Nat.reduceMul, reduceCtorEq, Nat.reduceBEq, Int.reduceLT, Int.reduceLE, Int.reduceNeg, Int.reduceEq, Int.reduceToNat, Nat.reducePow, Nat.reduceLT, Nat.reduceDiv, Nat.reduceMod, encTable, envNoS, hm, hil, hili, forall_eq'])
  refine vc_loop (RsnI x name) (x.syms.length + 1) ⟨0, by simp [lk], by simp [lk], by simp [lk], by omega, by omega, by simp⟩ ?_
  rintro n st ⟨j, h2, h8, h9, g1, g2, g3⟩
  by_cases hj : j < x.syms.length
  · obtain ⟨f, hf⟩ : ∃ f, x.syms[j]? = some f := ⟨x.syms[j], by simp [hj]⟩
    have hmf := get_map (f := encSym) hf
    simp only [encSym] at hmf
    have hw := wrap1 hj (by omega)
    have hlt : (j : Int) < (x.syms.length : Int) := by omega
    by_cases e1 : f.name = name
    · have hs : syN x.syms name = some f := find_at g3 hf (by simpa using e1)
      rw [hs]
      unfold orN
      (simp -implicitDefEqProofs +contextual (maxSteps := 8000000) only [go_sem, ↓reduceIte, Nat.reduceEqDiff, Nat.reduceAdd, Nat.reduceSub, Nat.reduceLeDiff, Nat.reduceMul, reduceCtorEq, Nat.reduceBEq, Int.reduceLT, Int.reduceLE, Int.reduceNeg, Int.reduceEq, Int.reduceToNat, Nat.reducePow, Nat.reduceLT, Nat.reduceDiv, Nat.reduceMod, envNoS, h2, h8, h9, hj, hlt, hmf, hw, e1, forall_eq'])
    · (simp -implicitDefEqProofs +contextual (maxSteps := 8000000) only [go_sem, ↓reduceIte, Nat.reduceEqDiff, Nat.reduceAdd, Nat.reduceSub, Nat.reduceLeDiff, Nat.reduceMul, reduceCtorEq, Nat.reduceBEq, Int.reduceLT, Int.reduceLE, Int.reduceNeg, Int.reduceEq, Int.reduceToNat, Nat.reducePow, Nat.reduceLT, Nat.reduceDiv, Nat.reduceMod, envNoS, h2, h8, h9, hj, hlt, hmf, hw, e1, forall_eq'])
      exact ⟨n - 1, by omega, j + 1, by simp [lk, h2], by simp [lk, h8], by simp [lk], by omega, by omega, take_all2 g3 hf (by simpa using e1)⟩
  · have hlt : ¬ (j : Int) < (x.syms.length : Int) := by omega
    rw [List.take_of_length_le (by omega)] at g3
    have hs : syN x.syms name = none := find_no g3
    rw [hs]
    unfold orN
    (simp -implicitDefEqProofs +contextual (maxSteps := 8000000) only [go_sem, ↓reduceIte, Nat.reduceEqDiff, Nat.reduceAdd, Nat.reduceSub, Nat.reduceLeDiff, Nat.reduceMul, reduceCtorEq, Nat.reduceBEq, Int.reduceLT, Int.reduceLE, Int.reduceNeg, Int.reduceEq, Int.reduceToNat, Nat.reducePow, Nat.reduceLT, Nat.reduceDiv, Nat.reduceMod, envNoS, h2, h8, h9, hj, hlt])
end Go.Proofs.YtmdkcapbahjipaaDoor.Ag
namespace Go.Proofs.YtmdkcapbahjipaaDoor.Ag
attribute [-go_sem] nxt
def fl (n : Nat) (f : Nat → Int) : List IV := (List.range n).map fun i => .int .i64 (f i)
theorem fl_len (n : Nat) (f : Nat → Int) : (fl n f).length = n := by simp [fl]
theorem fl_at {n i : Nat} {f : Nat → Int} (h : i < n) : (fl n f)[i]? = some (.int .i64 (f i)) := by simp [fl, h]
theorem fl_congr {n : Nat} {f g : Nat → Int} (h : ∀ i, i < n → f i = g i) : fl n f = fl n g := by
  unfold fl
  apply List.map_congr_left
  intro i hi; rw [h i (by simpa using hi)]
theorem fl_set {n i : Nat} {f : Nat → Int} {v : Int} (h : i < n) : (fl n f).set i (.int .i64 v) = fl n (fun j => if j = i then v else f j) := by
  apply List.ext_getElem?
  intro j
  rw [List.getElem?_set]
  by_cases e : i = j
  · subst e; simp [fl, h]
  · simp only [if_neg e, fl, List.getElem?_map]
    by_cases hj : j < n
    · simp [hj, Ne.symm e, fun h => e (Eq.symm h)]
    · simp [hj]
theorem fl_zero (n : Nat) : List.replicate n (IV.int .i64 0) = fl n fun _ => 0 := by
  apply List.ext_getElem?
  intro j
  by_cases hj : j < n <;> simp [fl, hj]
theorem flat_ints (f : Nat → Int) : ∀ l : List Nat, flat (l.map fun i => IV.int .i64 (f i)) = l.map fun i => IV.int .i64 (f i)
  | [] => rfl
  | x :: l => by
    have := flat_ints f l
    unfold flat at this ⊢
    rw [List.map_cons, List.flatMap_cons, this]; rfl
theorem fl_flat (n : Nat) (f : Nat → Int) : (flat (fl n f)).length = n := by
  unfold fl; rw [flat_ints]; simp
noncomputable def envAsk : Env := { split := true, ask := true }
theorem envAsk_ok : EnvOk Tryd.prog envAsk := ⟨fun f g h => by simp [envAsk, lk] at h, fun f g h => by simp [envAsk, lk] at h, fun f g h => by simp [envAsk, lk] at h, fun f g h => by simp [envAsk, lk] at h, fun f g h => by simp [envAsk, lk] at h⟩
def depthN (t : List Ty) (i : Nat) : Nat := if dR (succs t) (t.length + 1) i > t.length then 0 else dR (succs t) (t.length + 1) i
def pm (t : List Ty) (rd : Nat) (l : List FT) : Nat := (sl l).foldl (fun m q => max m (dR (succs t) rd q + 1)) 1
theorem pm_all {t : List Ty} {rd j : Nat} {x : Ty} (hx : t[j]? = some x) : pm t rd x.fields = dR (succs t) (rd + 1) j := by
  simp only [pm, dR, succs, hx]
theorem pm_le (t : List Ty) (rd : Nat) (l : List FT) : pm t rd l ≤ rd + 2 := foldl_max_le (g := fun q => dR (succs t) rd q + 1) (by omega) fun q _ => by have := dR_le (succs t) rd q; omega
def Rd2 (t : List Ty) (i : Int) (n : Nat) (a : St) : Prop := ∃ rd kd v : Nat, lk a.ρ 1 = some (.iv (.int .i64 i)) ∧ lk a.ρ 2 = some (.iv (.ref (encTable t))) ∧ lk a.ρ 5 = some (.lst kd v) ∧ lk a.ρ 7 = some (.iv (.int .i64 (rd : Int))) ∧ kd < 2 ∧
  lk a.σ kd = some (v, .list 3 1 (fl t.length fun q => (dR (succs t) rd q : Int))) ∧ rd ≤ t.length + 1 ∧ t.length + 1 < rd + n
def Rd3 (t : List Ty) (i : Int) (rd kd kn v w : Nat) (n : Nat) (a : St) : Prop := ∃ j : Nat, lk a.ρ 1 = some (.iv (.int .i64 i)) ∧ lk a.ρ 2 = some (.iv (.ref (encTable t))) ∧ lk a.ρ 5 = some (.lst kd v) ∧ lk a.ρ 7 = some (.iv (.int .i64 (rd : Int))) ∧ lk a.ρ 8 = some (.lst kn w) ∧ lk a.ρ 9 = some (.iv (.int .i64 (j : Int))) ∧
  lk a.σ kd = some (v, .list 3 1 (fl t.length fun q => (dR (succs t) rd q : Int))) ∧ lk a.σ kn = some (w, .list 3 1 (fl t.length fun q => if q < j then (dR (succs t) (rd + 1) q : Int) else 0)) ∧ j ≤ t.length ∧ t.length < j + n
def Rd4 (t : List Ty) (x : Ty) (i : Int) (rd kd kn v w j : Nat) (n : Nat) (a : St) : Prop := ∃ l : Nat, lk a.ρ 1 = some (.iv (.int .i64 i)) ∧ lk a.ρ 2 = some (.iv (.ref (encTable t))) ∧ lk a.ρ 5 = some (.lst kd v) ∧ lk a.ρ 7 = some (.iv (.int .i64 (rd : Int))) ∧ lk a.ρ 8 = some (.lst kn w) ∧ lk a.ρ 9 = some (.iv (.int .i64 (j : Int))) ∧
  lk a.ρ 10 = some (.iv (.slice (x.fields.map encFT))) ∧ lk a.ρ 11 = some (.iv (.int .i64 (l : Int))) ∧
  lk a.σ kd = some (v, .list 3 1 (fl t.length fun q => (dR (succs t) rd q : Int))) ∧ lk a.σ kn = some (w, .list 3 1 (fl t.length fun q => if q < j then (dR (succs t) (rd + 1) q : Int) else if q = j then (pm t rd (x.fields.take l) : Int) else 0)) ∧ l ≤ x.fields.length ∧ x.fields.length < l + n
def Rd1 (t : List Ty) (i : Int) (n : Nat) (a : St) : Prop := ∃ j v : Nat, lk a.ρ 1 = some (.iv (.int .i64 i)) ∧ lk a.ρ 2 = some (.iv (.ref (encTable t))) ∧ lk a.ρ 5 = some (.lst 0 v) ∧ lk a.ρ 6 = some (.iv (.int .i64 (j : Int))) ∧
  lk a.σ 0 = some (v, .list 3 1 (fl t.length fun q => if q < j then 1 else 0)) ∧ j ≤ t.length ∧ t.length < j + n
theorem ref7_Depths_fc (t : List Ty) (i : Nat) (ht : t.length ≤ 128) (hr : RefsOk t) (hi : i < t.length) : FC Tryd.prog i_cartoucheref7_Depths [encTable t, .int .i64 (i : Int)] (· = .int .i64 (depthN t i : Int)) := by
  have hil : (i : Int) < (t.length : Int) := by omega
  have hcap : (t.length : Int) * 8 ≤ 140737488355328 := by omega
  (refine FC.vc (envAsk_ok) F_cartoucheref7_Depths T_cartoucheref7_Depths L_cartoucheref7_Depths ?_; unfold A_cartoucheref7_Depths; simp only [args0, List.map_cons, List.map_nil, List.zipIdx_cons, List.zipIdx_nil, Nat.reduceAdd])
  (simp -implicitDefEqProofs +contextual (maxSteps := 8000000) only [go_sem, ↓reduceIte, Nat.reduceEqDiff, Nat.reduceAdd, Nat.reduceSub, Nat.reduceLeDiff, Nat.reduceMul, reduceCtorEq, Nat.reduceBEq, Int.reduceLT, Int.reduceLE, Int.reduceNeg, Int.reduceEq, Int.reduceToNat, Nat.reducePow, Nat.reduceLT, Nat.reduceDiv, Nat.reduceMod, encTable, envAsk, hcap, List.length_map, Int.le_refl, true_and, and_true])
  refine vcAsk_mk 0 ?_
  (simp -implicitDefEqProofs +contextual (maxSteps := 8000000) only [go_sem, ↓reduceIte, Nat.reduceEqDiff, Nat.reduceAdd, Nat.reduceSub, Nat.reduceLeDiff, Nat.reduceMul, reduceCtorEq, Nat.reduceBEq, Int.reduceLT, Int.reduceLE, Int.reduceNeg, Int.reduceEq, Int.reduceToNat, Nat.reducePow, Nat.reduceLT, Nat.reduceDiv, Nat.reduceMod, encTable, envAsk, hcap, List.length_map, Int.le_refl, true_and, and_true])
  refine vc_loop (Rd1 t i) (t.length + 1) ⟨0, 0, by simp [lk], by simp [lk, encTable], by simp [lk, nxt], by simp [lk], by simp [lk, upd, nxt, fl_zero], by omega, by omega⟩ ?_
  rintro n a ⟨j, v, p1, p2, p5, p6, k0, g1, g2⟩
  simp only [encTable] at p2
  by_cases hj : j < t.length
  · have hw := wrap1 hj (by omega)
    have hlt : (j : Int) < (t.length : Int) := by omega
    have hj1 : j + 1 ≤ t.length := by omega
    have hg := fl_at (f := fun q => if q < j then (1 : Int) else 0) hj
    have e : (fl t.length fun q => if q = j then 1 else if q < j then 1 else 0) = fl t.length fun q => if q < j + 1 then (1 : Int) else 0 := fl_congr fun q _ => by grind
    (simp -implicitDefEqProofs +contextual (maxSteps := 8000000) only [go_sem, ↓reduceIte, Nat.reduceEqDiff, Nat.reduceAdd, Nat.reduceSub, Nat.reduceLeDiff, Nat.reduceMul, reduceCtorEq, Nat.reduceBEq, Int.reduceLT, Int.reduceLE, Int.reduceNeg, Int.reduceEq, Int.reduceToNat, Nat.reducePow, Nat.reduceLT, Nat.reduceDiv, Nat.reduceMod, encTable, envAsk, p1, p2, p5, p6, k0, hj, hj1, hlt, hw, fl_len, fl_flat, fl_set, hg, List.headD_cons, e])
    exact ⟨n - 1, by omega, j + 1, v, by simp [lk, p1], by simp [lk, p2, encTable], by simp [lk, p5], by simp [lk], by simp [lk_upd], by omega, by omega⟩
  · have hlt : ¬ (j : Int) < (t.length : Int) := by omega
    (simp -implicitDefEqProofs +contextual (maxSteps := 8000000) only [go_sem, ↓reduceIte, Nat.reduceEqDiff, Nat.reduceAdd, Nat.reduceSub, Nat.reduceLeDiff, Nat.reduceMul, reduceCtorEq, Nat.reduceBEq, Int.reduceLT, Int.reduceLE, Int.reduceNeg, Int.reduceEq, Int.reduceToNat, Nat.reducePow, Nat.reduceLT, Nat.reduceDiv, Nat.reduceMod, encTable, envAsk, p1, p2, p5, p6, k0, hj, hlt, fl_len])
    have e : (fl t.length fun q => if q < j then (1 : Int) else 0) = fl t.length fun q => (dR (succs t) 0 q : Int) := fl_congr fun q hq => by simp only [dR]; rw [if_pos (by omega)]; rfl
    rw [e] at k0
    refine vc_loop (Rd2 t i) (t.length + 2) ⟨0, 0, v, by simp [lk, p1], by simp [lk, p2, encTable], by simp [lk, p5], by simp [lk], by omega, by simp [k0], by omega, by omega⟩ ?_
    clear p1 p2 p5 p6 k0 e hj hlt g1 g2
    rintro n a ⟨rd, kd, v, p1, p2, p5, p7, hkd, k0, g1, g2⟩
    simp only [encTable] at p2
    by_cases hrd : rd ≤ t.length
    · have hrdi : (rd : Int) ≤ (t.length : Int) := by omega
      have hwr : IntKind.i64.wrap ((rd : Int) + 1) = ((rd + 1 : Nat) : Int) := by rw [wrap_i64 (by omega) (by omega)]; omega
      obtain rfl | rfl : kd = 0 ∨ kd = 1 := by omega
      all_goals
        (simp -implicitDefEqProofs +contextual (maxSteps := 8000000) only [go_sem, ↓reduceIte, Nat.reduceEqDiff, Nat.reduceAdd, Nat.reduceSub, Nat.reduceLeDiff, Nat.reduceMul, reduceCtorEq, Nat.reduceBEq, Int.reduceLT, Int.reduceLE, Int.reduceNeg, Int.reduceEq, Int.reduceToNat, Nat.reducePow, Nat.reduceLT, Nat.reduceDiv, Nat.reduceMod, encTable, envAsk, p1, p2, p5, p7, k0, hrd, hrdi, fl_len, hcap, Int.le_refl, true_and, and_true])
      · refine vcAsk_mk 1 ?_
        (simp -implicitDefEqProofs +contextual (maxSteps := 8000000) only [go_sem, ↓reduceIte, Nat.reduceEqDiff, Nat.reduceAdd, Nat.reduceSub, Nat.reduceLeDiff, Nat.reduceMul, reduceCtorEq, Nat.reduceBEq, Int.reduceLT, Int.reduceLE, Int.reduceNeg, Int.reduceEq, Int.reduceToNat, Nat.reducePow, Nat.reduceLT, Nat.reduceDiv, Nat.reduceMod, encTable, envAsk, p1, p2, p5, p7, k0, hrd, hrdi, fl_len, hcap, Int.le_refl, true_and, and_true])
        refine vc_loop (Rd3 t i rd 0 1 v (nxt a.σ 1)) (t.length + 1) ⟨0, by simp [lk, p1], by simp [lk, p2, encTable], by simp [lk, p5], by simp [lk, p7], by simp [lk], by simp [lk], by simp [lk_upd, k0], by simp [lk_upd, fl_zero], by omega, by omega⟩ ?_
        generalize nxt a.σ 1 = w
        clear p1 p2 p5 p7 k0
        rintro m a ⟨j, p1, p2, p5, p7, p8, p9, k0, k1, f1, f2⟩
        simp only [encTable] at p2
        by_cases hj : j < t.length
        · obtain ⟨x, hx⟩ : ∃ x, t[j]? = some x := ⟨t[j], by simp [hj]⟩
          have hmx := get_map (f := encTy) hx
          simp only [encTy] at hmx
          obtain ⟨hxl, hxr⟩ := hr j x hx
          have hw := wrap1 hj (by omega)
          have hlt : (j : Int) < (t.length : Int) := by omega
          have hj1 : j + 1 ≤ t.length := by omega
          have hg := fl_at (f := fun q => if q < j then (dR (succs t) (rd + 1) q : Int) else 0) hj
          have e : (fl t.length fun q => if q = j then 1 else if q < j then (dR (succs t) (rd + 1) q : Int) else 0) = fl t.length fun q => if q < j then (dR (succs t) (rd + 1) q : Int) else if q = j then (pm t rd (x.fields.take 0) : Int) else 0 := fl_congr fun q _ => by simp [pm, sl]; grind
          (simp -implicitDefEqProofs +contextual (maxSteps := 8000000) only [go_sem, ↓reduceIte, Nat.reduceEqDiff, Nat.reduceAdd, Nat.reduceSub, Nat.reduceLeDiff, Nat.reduceMul, reduceCtorEq, Nat.reduceBEq, Int.reduceLT, Int.reduceLE, Int.reduceNeg, Int.reduceEq, Int.reduceToNat, Nat.reducePow, Nat.reduceLT, Nat.reduceDiv, Nat.reduceMod, encTable, envAsk, p1, p2, p5, p7, p8, p9, k0, k1, hj, hj1, hlt, hmx, hg, fl_len, fl_flat, fl_set, List.headD_cons, e, forall_eq'])
          refine vc_loop (Rd4 t x i rd 0 1 v w j) (x.fields.length + 1) ⟨0, by simp [lk, p1], by simp [lk, p2, encTable], by simp [lk, p5], by simp [lk, p7], by simp [lk, p8], by simp [lk, p9], by simp [lk], by simp [lk], by simp [lk_upd, k0], by simp [lk_upd], by omega, by omega⟩ ?_
          clear p1 p2 p5 p7 p8 p9 k0 k1 e hg
          rintro o a ⟨l, p1, p2, p5, p7, p8, p9, p10, p11, k0, k1, f3, f4⟩
          simp only [encTable] at p2
          by_cases hl : l < x.fields.length
          · obtain ⟨f, hf⟩ : ∃ f, x.fields[l]? = some f := ⟨x.fields[l], by simp [hl]⟩
            have hmf := get_map (f := encFT) hf
            simp only [encFT] at hmf
            have hwl := wrap1 hl (by omega)
            have hltl : (l : Int) < (x.fields.length : Int) := by omega
            have et : x.fields.take (l + 1) = x.fields.take l ++ [f] := by rw [List.take_add_one, hf]; rfl
            have hg := fl_at (f := fun q => if q < j then (dR (succs t) (rd + 1) q : Int) else if q = j then (pm t rd (x.fields.take l) : Int) else 0) hj
            rw [if_neg (by omega), if_pos rfl] at hg
            by_cases ek : f.kind = 17
            · obtain ⟨hr0, hr1⟩ := hxr f (List.mem_of_getElem? hf) ek
              obtain ⟨r, hrr⟩ := Int.eq_ofNat_of_zero_le hr0
              rw [hrr, ek] at hmf
              have hrl : r < t.length := by omega
              have hrli : (r : Int) < (t.length : Int) := by omega
              have hd := fl_at (f := fun q => (dR (succs t) rd q : Int)) hrl
              have hdl := dR_le (succs t) rd r
              have hwd : IntKind.i64.wrap ((dR (succs t) rd r : Int) + 1) = ((dR (succs t) rd r + 1 : Nat) : Int) := by rw [wrap_i64 (by omega) (by omega)]; omega
              have hrl1 : r + 1 ≤ t.length := by omega
              have hpm : pm t rd (x.fields.take (l + 1)) = max (pm t rd (x.fields.take l)) (dR (succs t) rd r + 1) := by rw [et]; simp [pm, sl_snoc, ek, hrr, List.foldl_append]
              by_cases hcm : pm t rd (x.fields.take l) < dR (succs t) rd r + 1
              · have hcmi : (pm t rd (x.fields.take l) : Int) < ((dR (succs t) rd r + 1 : Nat) : Int) := by omega
                have e : (fl t.length fun q => if q = j then ((dR (succs t) rd r + 1 : Nat) : Int) else if q < j then (dR (succs t) (rd + 1) q : Int) else if q = j then (pm t rd (x.fields.take l) : Int) else 0) = fl t.length fun q => if q < j then (dR (succs t) (rd + 1) q : Int) else if q = j then (pm t rd (x.fields.take (l + 1)) : Int) else 0 := fl_congr fun q _ => by rw [hpm]; grind
                (simp -implicitDefEqProofs +contextual (maxSteps := 8000000) only [go_sem, ↓reduceIte, Nat.reduceEqDiff, Nat.reduceAdd, Nat.reduceSub, Nat.reduceLeDiff, Nat.reduceMul, reduceCtorEq, Nat.reduceBEq, Int.reduceLT, Int.reduceLE, Int.reduceNeg, Int.reduceEq, Int.reduceToNat, Nat.reducePow, Nat.reduceLT, Nat.reduceDiv, Nat.reduceMod, encTable, envAsk, p1, p2, p5, p7, p8, p9, p10, p11, k0, k1, hj, hj1, hlt, hl, hltl, hmf, hg, hd, hwd, hwl, hrl, hrl1, hrli, hcm, hcmi, e, fl_len, fl_flat, fl_set, List.headD_cons, forall_eq'])
                exact ⟨o - 1, by omega, l + 1, by simp [lk, p1], by simp [lk, p2, encTable], by simp [lk, p5], by simp [lk, p7], by simp [lk, p8], by simp [lk, p9], by simp [lk, p10], by simp [lk], by simp [lk_upd, k0], by simp [lk_upd, hpm]; exact fl_congr fun q _ => by grind, by omega, by omega⟩
              · have hcmi : ¬ (pm t rd (x.fields.take l) : Int) < ((dR (succs t) rd r + 1 : Nat) : Int) := by omega
                (simp -implicitDefEqProofs +contextual (maxSteps := 8000000) only [go_sem, ↓reduceIte, Nat.reduceEqDiff, Nat.reduceAdd, Nat.reduceSub, Nat.reduceLeDiff, Nat.reduceMul, reduceCtorEq, Nat.reduceBEq, Int.reduceLT, Int.reduceLE, Int.reduceNeg, Int.reduceEq, Int.reduceToNat, Nat.reducePow, Nat.reduceLT, Nat.reduceDiv, Nat.reduceMod, encTable, envAsk, p1, p2, p5, p7, p8, p9, p10, p11, k0, k1, hj, hj1, hlt, hl, hltl, hmf, hg, hd, hwd, hwl, hrl, hrl1, hrli, hcm, hcmi, fl_len, fl_flat, fl_set, List.headD_cons, forall_eq'])
                exact ⟨o - 1, by omega, l + 1, by simp [lk, p1], by simp [lk, p2, encTable], by simp [lk, p5], by simp [lk, p7], by simp [lk, p8], by simp [lk, p9], by simp [lk, p10], by simp [lk], by simp [lk_upd, k0], by simp [lk_upd, hpm]; exact fl_congr fun q _ => by grind, by omega, by omega⟩
            · (simp -implicitDefEqProofs +contextual (maxSteps := 8000000) only [go_sem, ↓reduceIte, Nat.reduceEqDiff, Nat.reduceAdd, Nat.reduceSub, Nat.reduceLeDiff, Nat.reduceMul, reduceCtorEq, Nat.reduceBEq, Int.reduceLT, Int.reduceLE, Int.reduceNeg, Int.reduceEq, Int.reduceToNat, Nat.reducePow, Nat.reduceLT, Nat.reduceDiv, Nat.reduceMod, encTable, envAsk, p1, p2, p5, p7, p8, p9, p10, p11, k0, k1, hl, hltl, hmf, hwl, ek, forall_eq'])
              exact ⟨o - 1, by omega, l + 1, by simp [lk, p1], by simp [lk, p2, encTable], by simp [lk, p5], by simp [lk, p7], by simp [lk, p8], by simp [lk, p9], by simp [lk, p10], by simp [lk], k0, by rw [k1, et]; simp [pm, sl_snoc, ek], by omega, by omega⟩
          · have hltl : ¬ (l : Int) < (x.fields.length : Int) := by omega
            rw [List.take_of_length_le (by omega), pm_all hx] at k1
            have e : (fl t.length fun q => if q < j then (dR (succs t) (rd + 1) q : Int) else if q = j then (dR (succs t) (rd + 1) j : Int) else 0) = fl t.length fun q => if q < j + 1 then (dR (succs t) (rd + 1) q : Int) else 0 := fl_congr fun q _ => by grind
            rw [e] at k1
            (simp -implicitDefEqProofs +contextual (maxSteps := 8000000) only [go_sem, ↓reduceIte, Nat.reduceEqDiff, Nat.reduceAdd, Nat.reduceSub, Nat.reduceLeDiff, Nat.reduceMul, reduceCtorEq, Nat.reduceBEq, Int.reduceLT, Int.reduceLE, Int.reduceNeg, Int.reduceEq, Int.reduceToNat, Nat.reducePow, Nat.reduceLT, Nat.reduceDiv, Nat.reduceMod, encTable, envAsk, p1, p2, p5, p7, p8, p9, p10, p11, k0, k1, hl, hltl, hw])
            exact ⟨m - 1, by omega, j + 1, by simp [lk, p1], by simp [lk, p2, encTable], by simp [lk, p5], by simp [lk, p7], by simp [lk, p8], by simp [lk], by simp [k0], by simp [k1], by omega, by omega⟩
        · have hlt : ¬ (j : Int) < (t.length : Int) := by omega
          have e : (fl t.length fun q => if q < j then (dR (succs t) (rd + 1) q : Int) else 0) = fl t.length fun q => (dR (succs t) (rd + 1) q : Int) := fl_congr fun q hq => by rw [if_pos (by omega)]
          rw [e] at k1
          (simp -implicitDefEqProofs +contextual (maxSteps := 8000000) only [go_sem, ↓reduceIte, Nat.reduceEqDiff, Nat.reduceAdd, Nat.reduceSub, Nat.reduceLeDiff, Nat.reduceMul, reduceCtorEq, Nat.reduceBEq, Int.reduceLT, Int.reduceLE, Int.reduceNeg, Int.reduceEq, Int.reduceToNat, Nat.reducePow, Nat.reduceLT, Nat.reduceDiv, Nat.reduceMod, encTable, envAsk, p1, p2, p5, p7, p8, p9, k0, k1, hj, hlt, fl_len, hwr])
          exact ⟨n - 1, by omega, rd + 1, 1, w, by simp [lk, p1], by simp [lk, p2, encTable], by simp [lk], by simp [lk], by omega, by simp [k1], by omega, by omega⟩
      · refine vcAsk_mk 0 ?_
        (simp -implicitDefEqProofs +contextual (maxSteps := 8000000) only [go_sem, ↓reduceIte, Nat.reduceEqDiff, Nat.reduceAdd, Nat.reduceSub, Nat.reduceLeDiff, Nat.reduceMul, reduceCtorEq, Nat.reduceBEq, Int.reduceLT, Int.reduceLE, Int.reduceNeg, Int.reduceEq, Int.reduceToNat, Nat.reducePow, Nat.reduceLT, Nat.reduceDiv, Nat.reduceMod, encTable, envAsk, p1, p2, p5, p7, k0, hrd, hrdi, fl_len, hcap, Int.le_refl, true_and, and_true])
        refine vc_loop (Rd3 t i rd 1 0 v (nxt a.σ 0)) (t.length + 1) ⟨0, by simp [lk, p1], by simp [lk, p2, encTable], by simp [lk, p5], by simp [lk, p7], by simp [lk], by simp [lk], by simp [lk_upd, k0], by simp [lk_upd, fl_zero], by omega, by omega⟩ ?_
        generalize nxt a.σ 0 = w
        clear p1 p2 p5 p7 k0
        rintro m a ⟨j, p1, p2, p5, p7, p8, p9, k0, k1, f1, f2⟩
        simp only [encTable] at p2
        by_cases hj : j < t.length
        · obtain ⟨x, hx⟩ : ∃ x, t[j]? = some x := ⟨t[j], by simp [hj]⟩
          have hmx := get_map (f := encTy) hx
          simp only [encTy] at hmx
          obtain ⟨hxl, hxr⟩ := hr j x hx
          have hw := wrap1 hj (by omega)
          have hlt : (j : Int) < (t.length : Int) := by omega
          have hj1 : j + 1 ≤ t.length := by omega
          have hg := fl_at (f := fun q => if q < j then (dR (succs t) (rd + 1) q : Int) else 0) hj
          have e : (fl t.length fun q => if q = j then 1 else if q < j then (dR (succs t) (rd + 1) q : Int) else 0) = fl t.length fun q => if q < j then (dR (succs t) (rd + 1) q : Int) else if q = j then (pm t rd (x.fields.take 0) : Int) else 0 := fl_congr fun q _ => by simp [pm, sl]; grind
          (simp -implicitDefEqProofs +contextual (maxSteps := 8000000) only [go_sem, ↓reduceIte, Nat.reduceEqDiff, Nat.reduceAdd, Nat.reduceSub, Nat.reduceLeDiff, Nat.reduceMul, reduceCtorEq, Nat.reduceBEq, Int.reduceLT, Int.reduceLE, Int.reduceNeg, Int.reduceEq, Int.reduceToNat, Nat.reducePow, Nat.reduceLT, Nat.reduceDiv, Nat.reduceMod, encTable, envAsk, p1, p2, p5, p7, p8, p9, k0, k1, hj, hj1, hlt, hmx, hg, fl_len, fl_flat, fl_set, List.headD_cons, e, forall_eq'])
          refine vc_loop (Rd4 t x i rd 1 0 v w j) (x.fields.length + 1) ⟨0, by simp [lk, p1], by simp [lk, p2, encTable], by simp [lk, p5], by simp [lk, p7], by simp [lk, p8], by simp [lk, p9], by simp [lk], by simp [lk], by simp [lk_upd, k0], by simp [lk_upd], by omega, by omega⟩ ?_
          clear p1 p2 p5 p7 p8 p9 k0 k1 e hg
          rintro o a ⟨l, p1, p2, p5, p7, p8, p9, p10, p11, k0, k1, f3, f4⟩
          simp only [encTable] at p2
          by_cases hl : l < x.fields.length
          · obtain ⟨f, hf⟩ : ∃ f, x.fields[l]? = some f := ⟨x.fields[l], by simp [hl]⟩
            have hmf := get_map (f := encFT) hf
            simp only [encFT] at hmf
            have hwl := wrap1 hl (by omega)
            have hltl : (l : Int) < (x.fields.length : Int) := by omega
            have et : x.fields.take (l + 1) = x.fields.take l ++ [f] := by rw [List.take_add_one, hf]; rfl
            have hg := fl_at (f := fun q => if q < j then (dR (succs t) (rd + 1) q : Int) else if q = j then (pm t rd (x.fields.take l) : Int) else 0) hj
            rw [if_neg (by omega), if_pos rfl] at hg
            by_cases ek : f.kind = 17
            · obtain ⟨hr0, hr1⟩ := hxr f (List.mem_of_getElem? hf) ek
              obtain ⟨r, hrr⟩ := Int.eq_ofNat_of_zero_le hr0
              rw [hrr, ek] at hmf
              have hrl : r < t.length := by omega
              have hrli : (r : Int) < (t.length : Int) := by omega
              have hd := fl_at (f := fun q => (dR (succs t) rd q : Int)) hrl
              have hdl := dR_le (succs t) rd r
              have hwd : IntKind.i64.wrap ((dR (succs t) rd r : Int) + 1) = ((dR (succs t) rd r + 1 : Nat) : Int) := by rw [wrap_i64 (by omega) (by omega)]; omega
              have hrl1 : r + 1 ≤ t.length := by omega
              have hpm : pm t rd (x.fields.take (l + 1)) = max (pm t rd (x.fields.take l)) (dR (succs t) rd r + 1) := by rw [et]; simp [pm, sl_snoc, ek, hrr, List.foldl_append]
              by_cases hcm : pm t rd (x.fields.take l) < dR (succs t) rd r + 1
              · have hcmi : (pm t rd (x.fields.take l) : Int) < ((dR (succs t) rd r + 1 : Nat) : Int) := by omega
                have e : (fl t.length fun q => if q = j then ((dR (succs t) rd r + 1 : Nat) : Int) else if q < j then (dR (succs t) (rd + 1) q : Int) else if q = j then (pm t rd (x.fields.take l) : Int) else 0) = fl t.length fun q => if q < j then (dR (succs t) (rd + 1) q : Int) else if q = j then (pm t rd (x.fields.take (l + 1)) : Int) else 0 := fl_congr fun q _ => by rw [hpm]; grind
                (simp -implicitDefEqProofs +contextual (maxSteps := 8000000) only [go_sem, ↓reduceIte, Nat.reduceEqDiff, Nat.reduceAdd, Nat.reduceSub, Nat.reduceLeDiff, Nat.reduceMul, reduceCtorEq, Nat.reduceBEq, Int.reduceLT, Int.reduceLE, Int.reduceNeg, Int.reduceEq, Int.reduceToNat, Nat.reducePow, Nat.reduceLT, Nat.reduceDiv, Nat.reduceMod, encTable, envAsk, p1, p2, p5, p7, p8, p9, p10, p11, k0, k1, hj, hj1, hlt, hl, hltl, hmf, hg, hd, hwd, hwl, hrl, hrl1, hrli, hcm, hcmi, e, fl_len, fl_flat, fl_set, List.headD_cons, forall_eq'])
                exact ⟨o - 1, by omega, l + 1, by simp [lk, p1], by simp [lk, p2, encTable], by simp [lk, p5], by simp [lk, p7], by simp [lk, p8], by simp [lk, p9], by simp [lk, p10], by simp [lk], by simp [lk_upd, k0], by simp [lk_upd, hpm]; exact fl_congr fun q _ => by grind, by omega, by omega⟩
              · have hcmi : ¬ (pm t rd (x.fields.take l) : Int) < ((dR (succs t) rd r + 1 : Nat) : Int) := by omega
                (simp -implicitDefEqProofs +contextual (maxSteps := 8000000) only [go_sem, ↓reduceIte, Nat.reduceEqDiff, Nat.reduceAdd, Nat.reduceSub, Nat.reduceLeDiff, Nat.reduceMul, reduceCtorEq, Nat.reduceBEq, Int.reduceLT, Int.reduceLE, Int.reduceNeg, Int.reduceEq, Int.reduceToNat, Nat.reducePow, Nat.reduceLT, Nat.reduceDiv, Nat.reduceMod, encTable, envAsk, p1, p2, p5, p7, p8, p9, p10, p11, k0, k1, hj, hj1, hlt, hl, hltl, hmf, hg, hd, hwd, hwl, hrl, hrl1, hrli, hcm, hcmi, fl_len, fl_flat, fl_set, List.headD_cons, forall_eq'])
                exact ⟨o - 1, by omega, l + 1, by simp [lk, p1], by simp [lk, p2, encTable], by simp [lk, p5], by simp [lk, p7], by simp [lk, p8], by simp [lk, p9], by simp [lk, p10], by simp [lk], by simp [lk_upd, k0], by simp [lk_upd, hpm]; exact fl_congr fun q _ => by grind, by omega, by omega⟩
            · (simp -implicitDefEqProofs +contextual (maxSteps := 8000000) only [go_sem, ↓reduceIte, Nat.reduceEqDiff, Nat.reduceAdd, Nat.reduceSub, Nat.reduceLeDiff, Nat.reduceMul, reduceCtorEq, Nat.reduceBEq, Int.reduceLT, Int.reduceLE, Int.reduceNeg, Int.reduceEq, Int.reduceToNat, Nat.reducePow, Nat.reduceLT, Nat.reduceDiv, Nat.reduceMod, encTable, envAsk, p1, p2, p5, p7, p8, p9, p10, p11, k0, k1, hl, hltl, hmf, hwl, ek, forall_eq'])
              exact ⟨o - 1, by omega, l + 1, by simp [lk, p1], by simp [lk, p2, encTable], by simp [lk, p5], by simp [lk, p7], by simp [lk, p8], by simp [lk, p9], by simp [lk, p10], by simp [lk], k0, by rw [k1, et]; simp [pm, sl_snoc, ek], by omega, by omega⟩
          · have hltl : ¬ (l : Int) < (x.fields.length : Int) := by omega
            rw [List.take_of_length_le (by omega), pm_all hx] at k1
            have e : (fl t.length fun q => if q < j then (dR (succs t) (rd + 1) q : Int) else if q = j then (dR (succs t) (rd + 1) j : Int) else 0) = fl t.length fun q => if q < j + 1 then (dR (succs t) (rd + 1) q : Int) else 0 := fl_congr fun q _ => by grind
            rw [e] at k1
            (simp -implicitDefEqProofs +contextual (maxSteps := 8000000) only [go_sem, ↓reduceIte, Nat.reduceEqDiff, Nat.reduceAdd, Nat.reduceSub, Nat.reduceLeDiff, Nat.reduceMul, reduceCtorEq, Nat.reduceBEq, Int.reduceLT, Int.reduceLE, Int.reduceNeg, Int.reduceEq, Int.reduceToNat, Nat.reducePow, Nat.reduceLT, Nat.reduceDiv, Nat.reduceMod, encTable, envAsk, p1, p2, p5, p7, p8, p9, p10, p11, k0, k1, hl, hltl, hw])
            exact ⟨m - 1, by omega, j + 1, by simp [lk, p1], by simp [lk, p2, encTable], by simp [lk, p5], by simp [lk, p7], by simp [lk, p8], by simp [lk], by simp [k0], by simp [k1], by omega, by omega⟩
        · have hlt : ¬ (j : Int) < (t.length : Int) := by omega
          have e : (fl t.length fun q => if q < j then (dR (succs t) (rd + 1) q : Int) else 0) = fl t.length fun q => (dR (succs t) (rd + 1) q : Int) := fl_congr fun q hq => by rw [if_pos (by omega)]
          rw [e] at k1
          (simp -implicitDefEqProofs +contextual (maxSteps := 8000000) only [go_sem, ↓reduceIte, Nat.reduceEqDiff, Nat.reduceAdd, Nat.reduceSub, Nat.reduceLeDiff, Nat.reduceMul, reduceCtorEq, Nat.reduceBEq, Int.reduceLT, Int.reduceLE, Int.reduceNeg, Int.reduceEq, Int.reduceToNat, Nat.reducePow, Nat.reduceLT, Nat.reduceDiv, Nat.reduceMod, encTable, envAsk, p1, p2, p5, p7, p8, p9, k0, k1, hj, hlt, fl_len, hwr])
          exact ⟨n - 1, by omega, rd + 1, 0, w, by simp [lk, p1], by simp [lk, p2, encTable], by simp [lk], by simp [lk], by omega, by simp [k1], by omega, by omega⟩
    · have hrdi : ¬ (rd : Int) ≤ (t.length : Int) := by omega
      obtain rfl : rd = t.length + 1 := by omega
      have hd := fl_at (f := fun q => (dR (succs t) (t.length + 1) q : Int)) hi
      have hi1 : i + 1 ≤ t.length := by omega
      unfold depthN
      by_cases hbig : dR (succs t) (t.length + 1) i > t.length
      · have hbi : (t.length : Int) < (dR (succs t) (t.length + 1) i : Int) := by omega
        obtain rfl | rfl : kd = 0 ∨ kd = 1 := by omega
        all_goals
          (simp -implicitDefEqProofs +contextual (maxSteps := 8000000) only [go_sem, ↓reduceIte, Nat.reduceEqDiff, Nat.reduceAdd, Nat.reduceSub, Nat.reduceLeDiff, Nat.reduceMul, reduceCtorEq, Nat.reduceBEq, Int.reduceLT, Int.reduceLE, Int.reduceNeg, Int.reduceEq, Int.reduceToNat, Nat.reducePow, Nat.reduceLT, Nat.reduceDiv, Nat.reduceMod, encTable, envAsk, p1, p2, p5, p7, k0, hrd, hrdi, hi, hi1, hil, hd, hbig, hbi, fl_len, fl_flat, forall_eq'])
      · have hbi : ¬ (t.length : Int) < (dR (succs t) (t.length + 1) i : Int) := by omega
        obtain rfl | rfl : kd = 0 ∨ kd = 1 := by omega
        all_goals
          (simp -implicitDefEqProofs +contextual (maxSteps := 8000000) only [go_sem, ↓reduceIte, Nat.reduceEqDiff, Nat.reduceAdd, Nat.reduceSub, Nat.reduceLeDiff, Nat.reduceMul, reduceCtorEq, Nat.reduceBEq, Int.reduceLT, Int.reduceLE, Int.reduceNeg, Int.reduceEq, Int.reduceToNat, Nat.reducePow, Nat.reduceLT, Nat.reduceDiv, Nat.reduceMod, encTable, envAsk, p1, p2, p5, p7, k0, hrd, hrdi, hi, hi1, hil, hd, hbig, hbi, fl_len, fl_flat, forall_eq'])
end Go.Proofs.YtmdkcapbahjipaaDoor.Ag
namespace Go.Proofs.YtmdkcapbahjipaaDoor.Ag
def RefOnS (t : List Ty) (i : Int) : Prop := ∃ (n : Nat) (x : Ty), i = (n : Int) ∧ t[n]? = some x ∧ x.syms.length ≤ 2000000
def RefOnD (t : List Ty) (i : Int) : Prop := ∃ n : Nat, i = (n : Int) ∧ t.length ≤ 128 ∧ RefsOk t ∧ n < t.length
theorem good_refs {t : List Ty} (h : GoodT t) : RefsOk t := by
  intro i x hx
  have hty := (h.2 i x hx).2
  cases he : x.enum with
  | true =>
    have h0 := (hty.1 he).2.2.2.1
    refine ⟨by omega, fun f hf => ?_⟩
    rw [List.eq_nil_of_length_eq_zero h0] at hf; cases hf
  | false =>
    have hm := hty.2 he
    refine ⟨Nat.le_trans hm.2.1 (by omega), fun f hf hk => ?_⟩
    obtain ⟨j, hj⟩ := List.getElem?_of_mem hf
    have hb := (hm.2.2.2.2.2.2.1 j f hj).2.2.2.1
    unfold fieldB at hb
    rw [Bool.and_eq_true] at hb
    have h1 := hb.1
    rw [if_pos (.inr hk), hk] at h1
    unfold sortB at h1
    rw [Bool.and_eq_true] at h1
    have h0 : 0 ≤ f.ref := of_decide_eq_true h1.1
    refine ⟨h0, ?_⟩
    cases hy : t[f.ref.toNat]? with
    | none => rw [hy] at h1; exact absurd h1.2 (by simp)
    | some y => have := (List.getElem?_eq_some_iff.1 hy).1; omega
noncomputable def isEnB (t : List Ty) (i : Int) : Bool := dec (GoodT t) && sortB t i true
theorem isEn_get {t : List Ty} {i : Int} (h : isEnB t i = true) : ∃ (n : Nat) (x : Ty), i = (n : Int) ∧ t[n]? = some x ∧ x.enum = true ∧ EnumOk x := by
  unfold isEnB sortB at h
  rw [Bool.and_eq_true, Bool.and_eq_true] at h
  obtain ⟨h1, h2, h3⟩ := h
  have hg := dec_iff.1 h1
  have h0 : 0 ≤ i := of_decide_eq_true h2
  obtain ⟨n, rfl⟩ := Int.eq_ofNat_of_zero_le h0
  simp only [Int.toNat_natCast, Int.ofNat_eq_natCast] at h3 ⊢
  cases hx : t[n]? with
  | none => rw [hx] at h3; cases h3
  | some x =>
    rw [hx] at h3
    have he : x.enum = true := by simpa using h3
    exact ⟨n, x, rfl, hx, he, (hg.2 n x hx).2.1 he⟩
noncomputable def onEn (t : List Ty) (i : Int) (z : IV) (f : Ty → IV) : IV := if isEnB t i then (match t[i.toNat]? with
  | some x => f x
  | none => z) else z
theorem onEn_no {t : List Ty} {i : Int} (h : isEnB t i = false) (z : IV) (f : Ty → IV) : onEn t i z f = z := by simp [onEn, h]
theorem onEn_yes {t : List Ty} {n : Nat} {x : Ty} (h : isEnB t n = true) (hx : t[n]? = some x) (z : IV) (f : Ty → IV) : onEn t n z f = f x := by simp [onEn, h, hx]
noncomputable def symbolP (t : List Ty) (i n : Int) : IV := onEn t i (.tup [.str ⟨#[]⟩, .int .i64 18]) fun x => orS (syF x.syms n) (.int .i64 0) (.int .i64 20)
noncomputable def numberP (t : List Ty) (i : Int) (name : ByteArray) : IV := onEn t i (.tup [.int .i64 0, .int .i64 18]) fun x => orN (syN x.syms name) (.int .i64 0) (.int .i64 20)
noncomputable def depthsP (t : List Ty) (i : Int) : IV := if isMsgB t i then .tup [.int .i64 (depthN t i.toNat : Int), .int .i64 0] else .tup [.int .i64 0, .int .i64 18]
end Go.Proofs.YtmdkcapbahjipaaDoor.Ag
namespace Go.Proofs.YtmdkcapbahjipaaDoor.Ag
open Classical
noncomputable def g_table_SymbolAt : List IV → Option IV
  | [x_, .int .i64 n] => (match decTy x_ with
    | some x => if x.syms.length ≤ 2000000 then some (orS (syF x.syms n) (.bool true) (.bool false)) else none
    | none => none)
  | _ => none
theorem g_table_SymbolAt_is (x : Ty) (n : Int) : g_table_SymbolAt [encTy x, .int .i64 n] = if x.syms.length ≤ 2000000 then some (orS (syF x.syms n) (.bool true) (.bool false)) else none := by
  simp only [g_table_SymbolAt, decTy_enc]
theorem g_table_SymbolAt_ok : ∀ xs r, g_table_SymbolAt xs = some r → FC Tryd.prog i_table_SymbolAt xs (· = r) := by
  intro xs r h
  unfold g_table_SymbolAt at h
  split at h
  · rename_i x_ n
    split at h
    · rename_i x hx
      split at h
      · rename_i hpre
        injection h with h; subst h
        have := decTy_enc_inv hx; subst this
        exact SymbolAt_fc x n hpre
      · cases h
    · cases h
  · cases h

noncomputable def g_cartoucheref7_Symbol : List IV → Option IV
  | [t_, .int .i64 i, .int .i64 num] => (match decTable t_ with
    | some t => if RefOnS t i then some (refOn t i fun x => orS (syF x.syms num) (.bool true) (.bool false)) else none
    | none => none)
  | _ => none
theorem g_cartoucheref7_Symbol_is (t : List Ty) (i : Int) (num : Int) : g_cartoucheref7_Symbol [encTable t, .int .i64 i, .int .i64 num] = if RefOnS t i then some (refOn t i fun x => orS (syF x.syms num) (.bool true) (.bool false)) else none := by
  simp only [g_cartoucheref7_Symbol, decTable_enc]
theorem g_cartoucheref7_Symbol_ok : ∀ xs r, g_cartoucheref7_Symbol xs = some r → FC Tryd.prog i_cartoucheref7_Symbol xs (· = r) := by
  intro xs r h
  unfold g_cartoucheref7_Symbol at h
  split at h
  · rename_i t_ i num
    split at h
    · rename_i t ht
      split at h
      · rename_i hpre
        injection h with h; subst h
        have := decTable_enc_inv ht; subst this
        obtain ⟨n, x, rfl, hx, hl⟩ := hpre
        rw [refOn_is hx]
        exact ref7_Symbol_fc t n x num hx hl
      · cases h
    · cases h
  · cases h

noncomputable def g_cartoucheref7_Number : List IV → Option IV
  | [t_, .int .i64 i, .str name] => (match decTable t_ with
    | some t => if RefOnS t i then some (refOn t i fun x => orN (syN x.syms name) (.bool true) (.bool false)) else none
    | none => none)
  | _ => none
theorem g_cartoucheref7_Number_is (t : List Ty) (i : Int) (name : ByteArray) : g_cartoucheref7_Number [encTable t, .int .i64 i, .str name] = if RefOnS t i then some (refOn t i fun x => orN (syN x.syms name) (.bool true) (.bool false)) else none := by
  simp only [g_cartoucheref7_Number, decTable_enc]
theorem g_cartoucheref7_Number_ok : ∀ xs r, g_cartoucheref7_Number xs = some r → FC Tryd.prog i_cartoucheref7_Number xs (· = r) := by
  intro xs r h
  unfold g_cartoucheref7_Number at h
  split at h
  · rename_i t_ i name
    split at h
    · rename_i t ht
      split at h
      · rename_i hpre
        injection h with h; subst h
        have := decTable_enc_inv ht; subst this
        obtain ⟨n, x, rfl, hx, hl⟩ := hpre
        rw [refOn_is hx]
        exact ref7_Number_fc t n x name hx hl
      · cases h
    · cases h
  · cases h

noncomputable def g_cartoucheref7_Depths : List IV → Option IV
  | [t_, .int .i64 i] => (match decTable t_ with
    | some t => if RefOnD t i then some (.int .i64 (depthN t i.toNat : Int)) else none
    | none => none)
  | _ => none
theorem g_cartoucheref7_Depths_is (t : List Ty) (i : Int) : g_cartoucheref7_Depths [encTable t, .int .i64 i] = if RefOnD t i then some (.int .i64 (depthN t i.toNat : Int)) else none := by
  simp only [g_cartoucheref7_Depths, decTable_enc]
theorem g_cartoucheref7_Depths_ok : ∀ xs r, g_cartoucheref7_Depths xs = some r → FC Tryd.prog i_cartoucheref7_Depths xs (· = r) := by
  intro xs r h
  unfold g_cartoucheref7_Depths at h
  split at h
  · rename_i t_ i
    split at h
    · rename_i t ht
      split at h
      · rename_i hpre
        injection h with h; subst h
        have := decTable_enc_inv ht; subst this
        obtain ⟨n, rfl, h1, h2, h3⟩ := hpre
        exact ref7_Depths_fc t n h1 h2 h3
      · cases h
    · cases h
  · cases h

end Go.Proofs.YtmdkcapbahjipaaDoor.Ag
