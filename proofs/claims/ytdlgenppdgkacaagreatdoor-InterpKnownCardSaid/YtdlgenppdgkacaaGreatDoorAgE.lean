/- Regions that draw their order: the theorem. -/
import Derived.Test.YtdlgenppdgkacaaGreatDoorAg14
import Derived.Orders
set_option linter.unusedVariables false
set_option linter.unusedSimpArgs false
namespace Go.Proofs.YtdlgenppdgkacaaGreatDoor.Ag
open Go.RowKit (Below)

/-- One operation that touches no place, told of its operands alone. -/
inductive FStep (P : Program) (ρ : List (Nat × TV)) : AOp → TV → Prop
  | op (o : AOp) (r : TV) (h : aop ρ [] o = some (r, [])) : FStep P ρ o r
  | call (f : FuncId) (as_ : List AOpd) (vs : List TV) (xs : List IV) (r : IV) (h1 : evAll ρ as_ = some vs) (h2 : shutAll vs [] = some (xs, [])) (h3 : FC P f xs (· = r)) : FStep P ρ (.call f as_) (.iv r)
  | callv (x : AOpd) (f : FuncId) (fs cs : List IV) (as_ : List AOpd) (vs : List TV) (xs : List IV) (r : IV) (h0 : ev ρ x = some (.iv (.fn (.func f) fs cs))) (hf : callOk P f = true) (h1 : evAll ρ as_ = some vs) (h2 : shutAll vs [] = some (xs, []))
      (h3 : FC P f (fs ++ xs ++ cs) (· = r)) : FStep P ρ (.callv x as_) (.iv r)
/-- One operation that may touch places. -/
inductive BStep (P : Program) (ρ : List (Nat × TV)) (σ : Slots) : AOp → TV → Slots → Prop
  | op (o : AOp) (r : TV) (σ' : Slots) (h : aop ρ σ o = some (r, σ')) : BStep P ρ σ o r σ'
  | call (f : FuncId) (as_ : List AOpd) (vs : List TV) (xs : List IV) (r : IV) (σ' : Slots) (h1 : evAll ρ as_ = some vs) (h2 : shutAll vs σ = some (xs, σ')) (h3 : FC P f xs (· = r)) : BStep P ρ σ (.call f as_) (.iv r) σ'
  | callL (f : FuncId) (a0 : AOpd) (as_ : List AOpd) (k n e sz : Nat) (xs zs : List IV) (vs : List TV) (ys : List IV) (σ1 : Slots) (h0 : ev ρ a0 = some (.lst k n)) (h1 : evAll ρ as_ = some vs) (h2 : shutAll vs σ = some (ys, σ1))
      (h3 : lk σ1 k = some (n, .list e sz xs)) (h4 : LC P f e sz xs ys (· = zs)) : BStep P ρ σ (.call f (a0 :: as_)) (.lst k (n + 1)) (upd σ1 k (n + 1, .list e sz zs))
  | opK (k : Nat) (o : AOp) (r : TV) (σ' : Slots) (h : aop ρ σ (setK k o) = some (r, σ')) : BStep P ρ σ o r σ'
  | callG (f : FuncId) (as_ : List AOpd) (vs : List TV) (r : TV) (σ' : Slots) (h1 : evAll ρ as_ = some vs) (h2 : GC P f vs σ fun r' σ'' => r' = r ∧ σ'' = σ') : BStep P ρ σ (.call f as_) r σ'
  | callP (f : FuncId) (as_ : List AOpd) (vs : List TV) (xs : List IV) (σ' : Slots) (r : IV) (h1 : evAll ρ as_ = some vs) (h2 : shutAll vs σ = some (xs, σ')) (h3 : FC P f xs (· = r)) (h4 : ground r = true) : BStep P ρ σ (.call f as_) (.iv r) σ
  | callGF (f : FuncId) (as_ : List AOpd) (vs : List TV) (xs : List IV) (σ1 : Slots) (r : TV) (σ' : Slots) (h1 : evAll ρ as_ = some vs) (h2 : shutAll vs σ = some (xs, σ1)) (h3 : GC P f (xs.map .iv) σ1 fun r' σ'' => r' = r ∧ σ'' = σ') : BStep P ρ σ (.call f as_) r σ'
  | callvG (x : AOpd) (f : FuncId) (t : TV) (fs cs : List TV) (as_ : List AOpd) (vs : List TV) (r : TV) (σ' : Slots) (h0 : ev ρ x = some t) (hp : fnParts t = some (f, fs, cs)) (hf : callOk P f = true)
      (h1 : evAll ρ as_ = some vs) (h2 : GC P f (fs ++ vs ++ cs) σ fun r' σ'' => r' = r ∧ σ'' = σ') : BStep P ρ σ (.callv x as_) r σ'
  | opT (k : Nat) (o : AOp) (r : TV) (σ' : Slots) (h : aop (thawR σ ρ) σ (setK k o) = some (r, σ')) : BStep P ρ σ o r σ'
  | callT (f : FuncId) (as_ : List AOpd) (vs : List TV) (r : TV) (σ' : Slots) (h1 : evAll (thawR σ ρ) as_ = some vs) (h2 : GC P f vs σ fun r' σ'' => r' = r ∧ σ'' = σ') : BStep P ρ σ (.call f as_) r σ'

theorem opds_setK (k : Nat) (o : AOp) : opds (setK k o) = opds o := by cases o <;> rfl
theorem FStep.step {P : Program} {ρ : List (Nat × TV)} {o : AOp} {r : TV} (h : FStep P ρ o r) (s : St) (hρ : ∀ x ∈ opds o, ev s.ρ x = ev ρ x) : ∃ R, Step P s o R ∧ ∀ r' σ', R r' σ' → r' = r ∧ σ' = s.σ := by
  cases h with
  | op _ _ h => exact ⟨_, .op o r s.σ (by rw [aop_congr hρ]; exact aop_free h s.σ), fun r' σ' h => h⟩
  | call f as_ vs xs r h1 h2 h3 =>
    refine ⟨_, .call f as_ vs xs s.σ _ (by rw [evAll_congr (xs := as_) hρ]; exact h1) ((shutAll_free vs h2).2 s.σ) h3, ?_⟩
    rintro r' σ' ⟨⟨x, rfl, rfl⟩, rfl⟩; exact ⟨rfl, rfl⟩
  | callv x f fs cs as_ vs xs r h0 hf h1 h2 h3 =>
    refine ⟨_, .callv x f fs cs as_ vs xs s.σ _ (by rw [hρ x (by simp [opds])]; exact h0) hf (by rw [evAll_congr (fun y hy => hρ y (by simp [opds, hy]))]; exact h1) ((shutAll_free vs h2).2 s.σ) h3, ?_⟩
    rintro r' σ' ⟨⟨x, rfl, rfl⟩, rfl⟩; exact ⟨rfl, rfl⟩
theorem BStep.step {P : Program} {ρ : List (Nat × TV)} {σ1 : Slots} {o : AOp} {r : TV} {σ2 : Slots} (h : BStep P ρ σ1 o r σ2) (s : St) (hρ : ∀ x ∈ opds o, ev s.ρ x = ev ρ x) (hσ : s.σ = σ1) : ∃ R, Step P s o R ∧ ∀ r' σ', R r' σ' → r' = r ∧ σ' = σ2 := by
  subst hσ
  cases h with
  | op _ _ _ h => exact ⟨_, .op o r σ2 (by rw [aop_congr hρ]; exact h), fun r' σ' h => h⟩
  | call f as_ vs xs r _ h1 h2 h3 =>
    refine ⟨_, .call f as_ vs xs σ2 _ (by rw [evAll_congr (xs := as_) hρ]; exact h1) h2 h3, ?_⟩
    rintro r' σ' ⟨⟨x, rfl, rfl⟩, rfl⟩; exact ⟨rfl, rfl⟩
  | callL f a0 as_ k n e sz xs zs vs ys σ1 h0 h1 h2 h3 h4 =>
    refine ⟨_, .callL f a0 as_ k n e sz xs vs ys σ1 _ (by rw [hρ a0 (by simp [opds])]; exact h0) (by rw [evAll_congr (xs := as_) (fun y hy => hρ y (by simp [opds, hy]))]; exact h1) h2 h3 h4, ?_⟩
    rintro r' σ' ⟨zs', rfl, rfl, rfl⟩; exact ⟨rfl, rfl⟩
  | opK k _ _ _ h => exact ⟨_, .opK k o r σ2 (by rw [aop_congr (by rw [opds_setK]; exact hρ)]; exact h), fun r' σ' h => h⟩
  | callG f as_ vs r _ h1 h2 => exact ⟨_, .callG f as_ vs _ (by rw [evAll_congr (xs := as_) hρ]; exact h1) h2, fun r' σ' h => h⟩
  | callP f as_ vs xs σ' r h1 h2 h3 h4 =>
    refine ⟨_, .callP f as_ vs xs σ' _ (by rw [evAll_congr (xs := as_) hρ]; exact h1) h2 h3 (by rintro x rfl; exact h4), ?_⟩
    rintro r' σ'' ⟨⟨x, rfl, rfl⟩, rfl⟩; exact ⟨rfl, rfl⟩
  | callGF f as_ vs xs σ1 r _ h1 h2 h3 => exact ⟨_, .callGF f as_ vs xs σ1 _ (by rw [evAll_congr (xs := as_) hρ]; exact h1) h2 h3, fun r' σ' h => h⟩
  | callvG x f t fs cs as_ vs r _ h0 hp hf h1 h2 =>
    exact ⟨_, .callvG x f t fs cs as_ vs _ (by rw [hρ x (by simp [opds])]; exact h0) hp hf (by rw [evAll_congr (fun y hy => hρ y (by simp [opds, hy]))]; exact h1) h2, fun r' σ' h => h⟩
  | opT k _ _ _ h => exact ⟨_, .opT k o r σ2 (by rw [aop_congr (by rw [opds_setK]; exact fun x hx => ev_thawR (hρ x hx))]; exact h), fun r' σ' h => h⟩
  | callT f as_ vs r _ h1 h2 => exact ⟨_, .callT f as_ vs _ (by rw [evAll_congr (xs := as_) (fun x hx => ev_thawR (hρ x hx))]; exact h1) h2, fun r' σ' h => h⟩

/-- One operation in its text's order: from a state to the next. 'b': it may touch places. -/
def DStep (P : Program) (b : Bool) (i : AIns) (s s' : St) : Prop :=
  match i.guard with
  | none => (b = false ∧ ∃ r, FStep P s.ρ i.op r ∧ s' = s.put i.dst r) ∨ (b = true ∧ ∃ r σ', BStep P s.ρ s.σ i.op r σ' ∧ s' = ({ s with σ := σ' }.put i.dst r))
  | some (t, want) => (lk s.ρ t = some .dead ∧ s' = s.put i.dst .dead) ∨ ∃ c, lk s.ρ t = some (.iv (.bool c)) ∧
      (c = want → (b = false ∧ ∃ r, FStep P s.ρ i.op r ∧ s' = s.put i.dst r) ∨ (b = true ∧ ∃ r σ', BStep P s.ρ s.σ i.op r σ' ∧ s' = ({ s with σ := σ' }.put i.dst r))) ∧
      (c ≠ want → s' = s.put i.dst .dead)

/-- .. with reads out of turn ('bd' holds their numbers, and 1000000): of the places of 'X' alone, which no operation turns but such as come behind all these reads (their numbers, and 2000000). -/
def DOneX (P : Program) (bd X : List Nat) (k : Nat) (i : AIns) (s s' : St) : Prop :=
  (bd.contains k = false ∧ ∃ r, (FStep P s.ρ i.op r ∨ (bd.contains (k + 1000000) = true ∧ ∀ σ', (∀ p ∈ X, lk σ' p = lk s.σ p) → aop s.ρ σ' i.op = some (r, σ'))) ∧ s' = s.put i.dst r) ∨
  (bd.contains k = true ∧ ∃ r σ', BStep P s.ρ s.σ i.op r σ' ∧ (bd.contains (k + 2000000) = false → ∀ p ∈ X, lk σ' p = lk s.σ p) ∧ s' = ({ s with σ := σ' }.put i.dst r))
def DStepX (P : Program) (bd X : List Nat) (k : Nat) (i : AIns) (s s' : St) : Prop :=
  match i.guard with
  | none => DOneX P bd X k i s s'
  | some (t, want) => (lk s.ρ t = some .dead ∧ s' = s.put i.dst .dead) ∨ ∃ c, lk s.ρ t = some (.iv (.bool c)) ∧ (c = want → DOneX P bd X k i s s') ∧ (c ≠ want → s' = s.put i.dst .dead)
theorem DStep.toX {P : Program} {bd : List Nat} {k : Nat} {i : AIns} {s s' : St} (h : DStep P (bd.contains k) i s s') : DStepX P bd [] k i s s' := by
  have one : ((bd.contains k = false ∧ ∃ r, FStep P s.ρ i.op r ∧ s' = s.put i.dst r) ∨ (bd.contains k = true ∧ ∃ r σ', BStep P s.ρ s.σ i.op r σ' ∧ s' = ({ s with σ := σ' }.put i.dst r))) → DOneX P bd [] k i s s' := by
    rintro (⟨h1, r, h2, h3⟩ | ⟨h1, r, σ', h2, h3⟩)
    · exact .inl ⟨h1, r, .inl h2, h3⟩
    · exact .inr ⟨h1, r, σ', h2, fun _ p hp => absurd hp (by simp), h3⟩
  unfold DStep at h
  unfold DStepX
  split at h
  · exact one h
  · rcases h with h | ⟨c, h1, h2, h3⟩
    · exact .inl h
    · exact .inr ⟨c, h1, fun e => one (h2 e), h3⟩

/-- The run in the text's order. 'bd': which operations may touch places. -/
def wprd (P : Program) (bd : List Nat) : Nat → List AIns → (St → Prop) → St → Prop
  | _, [], K, s => K s
  | k, i :: is, K, s => ∃ s', DStep P (bd.contains k) i s s' ∧ wprd P bd (k + 1) is K s'

/-! ### the check of a region's edges -/
def bindsAny (e : Edge) : Bool := Region.binds .any e
def readsOf (i : AIns) : List Nat :=
  ((opds i.op).filterMap fun x => match x with | .t n => some n | .c _ => none) ++ (match i.guard with | some (t, _) => [t] | none => [])
def isNone' : Option Nat → Bool
  | none => true
  | some _ => false
def clash (bd : List Nat) (i j : Nat) (x y : AIns) : Bool :=
  (match x.dst with | some d => (readsOf y).contains d | none => false) || (match y.dst with | some d => (readsOf x).contains d | none => false) || (bd.contains i && bd.contains j) || (bd.contains (i + 5000000) && bd.contains j) || (bd.contains i && bd.contains (j + 5000000)) || (bd.contains (i + 7000000) && bd.contains j)
def drawOk (ops : Array Oper) (is : List AIns) (bd : List Nat) (anc : List (List Nat)) : Bool :=
  ((List.range ops.size).all fun j => !bd.contains j || !bd.contains (j + 2000000) || (List.range ops.size).all fun i => !bd.contains (i + 1000000) || (anc.getD j []).contains i) &&
  (List.range ops.size).all fun j =>
    (match ops[j]?, is[j]? with
     | some o, some y =>
       (o.after.toList.all fun e => !bindsAny e || decide (e.on < j)) &&
       ((anc.getD j []).all fun a => o.after.toList.any fun e => bindsAny e && decide (e.on < j) && (e.on == a || (anc.getD e.on []).contains a)) &&
       ((List.range j).all fun i => match is[i]? with
         | some x => (x.dst != y.dst || isNone' x.dst) && (!clash bd i j x y || (anc.getD j []).contains i)
         | none => false)
     | _, _ => false)
/-- The operations that must have been done ahead of each. -/
def ancs (ops : Array Oper) : List (List Nat) :=
  ops.foldl (fun acc o => acc ++ [(o.after.toList.foldl (fun s e => if bindsAny e then (e.on :: acc.getD e.on []) ++ s else s) []).eraseDups]) []

theorem countP_lt {α : Type} {p q : α → Bool} : ∀ {l : List α}, (∀ x, q x = true → p x = true) → ∀ {i : α}, i ∈ l → p i = true → q i = false → l.countP q < l.countP p
  | x :: l, h, i, hi, hp, hq => by
    have le : ∀ l : List α, l.countP q ≤ l.countP p := fun l => List.countP_mono_left fun x _ => h x
    rcases List.mem_cons.1 hi with rfl | hi
    · rw [List.countP_cons_of_pos hp, List.countP_cons_of_neg (by simp [hq])]
      have := le l; omega
    · have ih := countP_lt (l := l) h hi hp hq
      rw [List.countP_cons, List.countP_cons]
      split
      · rename_i h1; rw [if_pos (h x h1)]; omega
      · split <;> omega

section
variable {P : Program} {N : Nat} {ops : Array Oper} {is : List AIns} {bd X : List Nat} {anc : List (List Nat)} {S : Nat → St}

theorem lk_put (s : St) (d : Option Nat) (v : TV) (t : Nat) : lk (s.put d v).ρ t = if d = some t then some v else lk s.ρ t := by
  cases d with
  | none => simp [St.put]
  | some d =>
    simp only [St.put, lk]
    by_cases h : d = t
    · subst h; simp
    · simp [h]

/-- What is known of the check. -/
structure Chk (ops : Array Oper) (is : List AIns) (bd : List Nat) (anc : List (List Nat)) : Prop where
  back : ∀ (j : Nat) (o : Oper), ops[j]? = some o → ∀ e ∈ o.after, bindsAny e = true → e.on < j
  up : ∀ (j : Nat) (o : Oper), ops[j]? = some o → ∀ a ∈ anc.getD j [], ∃ e ∈ o.after, bindsAny e = true ∧ e.on < j ∧ (e.on = a ∨ a ∈ anc.getD e.on [])
  dst : ∀ (i j : Nat) (x y : AIns) (d : Nat), i < j → is[i]? = some x → is[j]? = some y → x.dst = some d → y.dst ≠ some d
  ord : ∀ (i j : Nat) (x y : AIns), i < j → is[i]? = some x → is[j]? = some y → clash bd i j x y = true → i ∈ anc.getD j []
  ex : ∀ (i j : Nat), i < ops.size → j < ops.size → bd.contains j = true → bd.contains (j + 2000000) = true → bd.contains (i + 1000000) = true → i ∈ anc.getD j []

theorem chk_of (hl : is.length = ops.size) (h : drawOk ops is bd anc = true) : Chk ops is bd anc := by
  unfold drawOk at h
  rw [Bool.and_eq_true] at h
  obtain ⟨hex, h⟩ := h
  rw [List.all_eq_true] at h hex
  have key : ∀ (j : Nat) (o : Oper) (y : AIns), ops[j]? = some o → is[j]? = some y → (o.after.toList.all fun e => !bindsAny e || decide (e.on < j)) = true ∧
      ((anc.getD j []).all fun a => o.after.toList.any fun e => bindsAny e && decide (e.on < j) && (e.on == a || (anc.getD e.on []).contains a)) = true ∧
      ((List.range j).all fun i => match is[i]? with
         | some x => (x.dst != y.dst || isNone' x.dst) && (!clash bd i j x y || (anc.getD j []).contains i)
         | none => false) = true := by
    intro j o y ho hy
    have hj : j < ops.size := (Array.getElem?_eq_some_iff.1 ho).1
    have := h j (by simpa using hj)
    rw [ho, hy] at this
    simp only [Bool.and_eq_true] at this
    exact ⟨this.1.1, this.1.2, this.2⟩
  have hy : ∀ (j : Nat) (o : Oper), ops[j]? = some o → ∃ y, is[j]? = some y := by
    intro j o ho
    have hj : j < ops.size := (Array.getElem?_eq_some_iff.1 ho).1
    exact ⟨is[j], by simp [hl, hj]⟩
  have ho : ∀ (j : Nat) (y : AIns), is[j]? = some y → ∃ o, ops[j]? = some o := by
    intro j y hy
    have hj : j < is.length := (List.getElem?_eq_some_iff.1 hy).1
    exact ⟨ops[j]'(by omega), by simp [show j < ops.size by omega]⟩
  refine ⟨?_, ?_, ?_, ?_, fun i j hi hj h1 h2 h3 => ?_⟩
  rotate_left 4
  · have h4 := hex j (by simpa using hj)
    simp only [h1, h2, Bool.not_true, Bool.false_or, List.all_eq_true] at h4
    have h5 := h4 i (by simpa using hi)
    rw [h3] at h5
    simpa using h5
  · intro j o h1 e he hb
    obtain ⟨y, h2⟩ := hy j o h1
    have := (List.all_eq_true.1 (key j o y h1 h2).1) e (by simpa using he)
    simpa [hb] using this
  · intro j o h1 a ha
    obtain ⟨y, h2⟩ := hy j o h1
    have := (List.all_eq_true.1 (key j o y h1 h2).2.1) a ha
    obtain ⟨e, he, h3⟩ := List.any_eq_true.1 this
    simp only [Bool.and_eq_true, Bool.or_eq_true, decide_eq_true_eq, beq_iff_eq, List.contains_iff_mem] at h3
    exact ⟨e, by simpa using he, h3.1.1, h3.1.2, h3.2⟩
  · intro i j x y d hij hx hyy hd
    obtain ⟨o, h1⟩ := ho j y hyy
    have := (List.all_eq_true.1 (key j o y h1 hyy).2.2) i (by simpa using hij)
    rw [hx] at this
    simp only [Bool.and_eq_true, Bool.or_eq_true, hd, isNone', Bool.false_eq_true, or_false, bne_iff_ne, ne_eq] at this
    exact fun e => this.1 e.symm
  · intro i j x y hij hx hyy hc
    obtain ⟨o, h1⟩ := ho j y hyy
    have := (List.all_eq_true.1 (key j o y h1 hyy).2.2) i (by simpa using hij)
    rw [hx] at this
    simp only [Bool.and_eq_true, Bool.or_eq_true, hc, Bool.not_true, Bool.false_eq_true, false_or, List.contains_iff_mem] at this
    exact this.2

/-- What holds while the operations of 'L' have been done. -/
structure DInv (N : Nat) (ops : Array Oper) (is : List AIns) (bd : List Nat) (S : Nat → St) (K0 : Kr) (w0 : World) (df : List Deferred) (L : Array Bool) (a : Act) (w : World) : Prop where
  size : L.size = ops.size
  closed : ∀ (j : Nat) (o : Oper), ops[j]? = some o → L[j]? = some true → ∀ e ∈ o.after, bindsAny e = true → L[e.on]? = some true
  defers : a.defers = df
  st : ∃ K s, SRel N K s a w ∧ Evo K0 (S 0).σ w0 K s.σ w ∧
    (∀ (j : Nat) (y : AIns) (d : Nat), is[j]? = some y → L[j]? = some true → y.dst = some d → lk s.ρ d = lk (S (j + 1)).ρ d) ∧
    (∀ t, (∀ (j : Nat) (y : AIns), is[j]? = some y → L[j]? = some true → y.dst ≠ some t) → lk s.ρ t = lk (S 0).ρ t) ∧
    ∃ m, m ≤ ops.size ∧ (∀ j : Nat, j < ops.size → bd.contains j = true → (L[j]? = some true ↔ j < m)) ∧ s.σ = (S m).σ

theorem anc_done (hc : Chk ops is bd anc) {L : Array Bool} (hcl : ∀ (j : Nat) (o : Oper), ops[j]? = some o → L[j]? = some true → ∀ e ∈ o.after, bindsAny e = true → L[e.on]? = some true) (hsz : L.size = ops.size) :
    ∀ (j : Nat), (∀ o : Oper, ops[j]? = some o → ∀ e ∈ o.after, bindsAny e = true → L[e.on]? = some true) → ∀ a ∈ anc.getD j [], j < ops.size → L[a]? = some true := by
  intro j
  induction j using Nat.strongRecOn with
  | _ j ih =>
    intro hj a ha hlt
    have ho : ops[j]? = some ops[j] := by simp [hlt]
    obtain ⟨e, he, hb, hlt2, h1⟩ := hc.up j _ ho a ha
    have hL := hj _ ho e he hb
    rcases h1 with rfl | h1
    · exact hL
    · exact ih e.on hlt2 (fun o ho' e' he' hb' => hcl e.on o ho' hL e' he' hb') a h1 (by omega)

/-- The states of the run in the text's order. -/
structure Chain (P : Program) (is : List AIns) (bd X : List Nat) (S : Nat → St) : Prop where
  step : ∀ (i : Nat) (x : AIns), is[i]? = some x → DStepX P bd X i x (S i) (S (i + 1))

theorem Chain.lk1 (ch : Chain P is bd X S) {i : Nat} {x : AIns} (hx : is[i]? = some x) (t : Nat) (ht : x.dst ≠ some t) : lk (S (i + 1)).ρ t = lk (S i).ρ t := by
  have h := ch.step i x hx
  have one : DOneX P bd X i x (S i) (S (i + 1)) → Ag.lk (S (i + 1)).ρ t = Ag.lk (S i).ρ t := by
    rintro (⟨_, r, _, e⟩ | ⟨_, r, σ', _, _, e⟩)
    · rw [e, lk_put, if_neg ht]
    · rw [e, lk_put, if_neg ht]
  unfold DStepX at h
  split at h
  · exact one h
  · rcases h with ⟨_, h2⟩ | ⟨c, _, h1, h2⟩
    · rw [h2, lk_put, if_neg ht]
    rename_i t' want hguard hlk
    by_cases hcw : c = want
    · exact one (h1 hcw)
    · rw [h2 hcw, lk_put, if_neg ht]
theorem Chain.σ (ch : Chain P is bd X S) {i : Nat} {x : AIns} (hx : is[i]? = some x) (hb : bd.contains i = false) : (S (i + 1)).σ = (S i).σ := by
  have h := ch.step i x hx
  have one : DOneX P bd X i x (S i) (S (i + 1)) → (S (i + 1)).σ = (S i).σ := by
    rintro (⟨_, r, _, e⟩ | ⟨h1, _⟩)
    · rw [e, St.put_σ]
    · rw [hb] at h1; cases h1
  unfold DStepX at h
  split at h
  · exact one h
  · rcases h with ⟨_, h2⟩ | ⟨c, _, h1, h2⟩
    · rw [h2, St.put_σ]
    rename_i t' want hguard hlk
    by_cases hcw : c = want
    · exact one (h1 hcw)
    · rw [h2 hcw, St.put_σ]
theorem Chain.X1 (ch : Chain P is bd X S) {i : Nat} {x : AIns} (hx : is[i]? = some x) (hb : bd.contains i = true → bd.contains (i + 2000000) = false) {p : Nat} (hp : p ∈ X) : Ag.lk (S (i + 1)).σ p = Ag.lk (S i).σ p := by
  have h := ch.step i x hx
  have one : DOneX P bd X i x (S i) (S (i + 1)) → Ag.lk (S (i + 1)).σ p = Ag.lk (S i).σ p := by
    rintro (⟨_, r, _, e⟩ | ⟨h1, r, σ', _, h2, e⟩)
    · rw [e, St.put_σ]
    · rw [e, St.put_σ]; exact h2 (hb h1) p hp
  unfold DStepX at h
  split at h
  · exact one h
  · rcases h with ⟨_, h2⟩ | ⟨c, _, h1, h2⟩
    · rw [h2, St.put_σ]
    rename_i t' want hguard hlk
    by_cases hcw : c = want
    · exact one (h1 hcw)
    · rw [h2 hcw, St.put_σ]
theorem Chain.X_same (ch : Chain P is bd X S) {p : Nat} (hp : p ∈ X) : ∀ (n : Nat), n ≤ is.length → (∀ j, j < n → bd.contains j = true → bd.contains (j + 2000000) = false) → Ag.lk (S n).σ p = Ag.lk (S 0).σ p
  | 0, _, _ => rfl
  | n + 1, hl, hb => by
    have hx : is[n]? = some (is[n]'(by omega)) := by simp
    rw [ch.X1 hx (hb n (by omega)) hp]
    exact Chain.X_same ch hp n (by omega) fun j hj => hb j (by omega)
theorem Chain.σ_same (ch : Chain P is bd X S) : ∀ (k i : Nat), i + k ≤ is.length → (∀ j, i ≤ j → j < i + k → bd.contains j = false) → (S (i + k)).σ = (S i).σ
  | 0, i, _, _ => rfl
  | k + 1, i, hl, hb => by
    have hx : is[i + k]? = some (is[i + k]'(by omega)) := by simp
    have := ch.σ hx (hb (i + k) (by omega) (by omega))
    rw [show i + (k + 1) = i + k + 1 by omega, this]
    exact Chain.σ_same ch k i (by omega) (fun j h1 h2 => hb j h1 (by omega))
/-- A slot that no operation between writes. -/
theorem Chain.lk_same (ch : Chain P is bd X S) (t : Nat) : ∀ (k i : Nat), i + k ≤ is.length → (∀ (j : Nat) (x : AIns), i ≤ j → j < i + k → is[j]? = some x → x.dst ≠ some t) → Ag.lk (S (i + k)).ρ t = Ag.lk (S i).ρ t
  | 0, i, _, _ => rfl
  | k + 1, i, hl, hb => by
    have hx : is[i + k]? = some (is[i + k]'(by omega)) := by simp
    have := ch.lk1 hx t (hb (i + k) _ (by omega) (by omega) hx)
    rw [show i + (k + 1) = i + k + 1 by omega, this]
    exact Chain.lk_same ch t k i (by omega) (fun j x h1 h2 => hb j x h1 (by omega))

theorem reads_mem {i : AIns} {n : Nat} (h : AOpd.t n ∈ opds i.op) : n ∈ readsOf i := by
  unfold readsOf
  refine List.mem_append.2 (.inl (List.mem_filterMap.2 ⟨_, h, rfl⟩))
theorem guard_mem {i : AIns} {t : Nat} {want : Bool} (h : i.guard = some (t, want)) : t ∈ readsOf i := by
  unfold readsOf
  rw [h]
  exact List.mem_append.2 (.inr (by simp))

/-- At its turn an operation's operands, and the places, are what they are in the text's order. -/
theorem at_turn (hl : is.length = ops.size) (hc : Chk ops is bd anc) (ch : Chain P is bd X S) {K0 : Kr} {w0 : World} {df : List Deferred} {L : Array Bool} {a : Act} {w : World} (hi : DInv N ops is bd S K0 w0 df L a w)
    {i : Nat} {x : AIns} (hx : is[i]? = some x) (hL : L[i]? = some false) (hready : ∀ o : Oper, ops[i]? = some o → ∀ e ∈ o.after, bindsAny e = true → L[e.on]? = some true)
    {s : St} (h1 : ∀ (j : Nat) (y : AIns) (d : Nat), is[j]? = some y → L[j]? = some true → y.dst = some d → lk s.ρ d = lk (S (j + 1)).ρ d) (h2 : ∀ t, (∀ (j : Nat) (y : AIns), is[j]? = some y → L[j]? = some true → y.dst ≠ some t) → lk s.ρ t = lk (S 0).ρ t) :
    ∀ t ∈ readsOf x, lk s.ρ t = lk (S i).ρ t := by
  intro t ht
  have hilt : i < is.length := (List.getElem?_eq_some_iff.1 hx).1
  by_cases hw : ∃ (j : Nat) (y : AIns), j < i ∧ is[j]? = some y ∧ y.dst = some t
  · obtain ⟨j, y, hji, hy, hd⟩ := hw
    have hcl : clash bd j i y x = true := by simp [clash, hd, ht]
    have hLj := anc_done hc hi.closed hi.size i hready j (hc.ord j i y x hji hy hx hcl) (by omega)
    rw [h1 j y t hy hLj hd]
    have := ch.lk_same t (i - (j + 1)) (j + 1) (by omega) (fun k z hk1 hk2 hz e => hc.dst j k y z t (by omega) hy hz hd e)
    rw [show j + 1 + (i - (j + 1)) = i by omega] at this
    exact this.symm
  · have h0 : lk (S i).ρ t = lk (S 0).ρ t := by
      have := ch.lk_same t i 0 (by omega) (fun k z _ hk2 hz e => hw ⟨k, z, by omega, hz, e⟩)
      simpa using this
    rw [h0]
    refine h2 t fun j y hy hLj e => ?_
    rcases Nat.lt_trichotomy j i with h | h | h
    · exact hw ⟨j, y, h, hy, e⟩
    · subst h; rw [hL] at hLj; cases hLj
    · have hjlt : j < is.length := (List.getElem?_eq_some_iff.1 hy).1
      have hcl : clash bd i j x y = true := by simp [clash, e, ht]
      have := anc_done hc hi.closed hi.size j (fun o ho e' he' hb' => hi.closed j o ho hLj e' he' hb') i (hc.ord i j x y h hx hy hcl) (by omega)
      rw [hL] at this; cases this


theorem wanted_of {a : Act} {o : Oper} {x : AIns} {ch : Nat} (htr : trIns P N ops ch o = some x) {s : St} {K : Kr} {w : World} (hs : SRel N K s a w) :
    x.dst = o.dst ∧ (∀ d, o.dst = some d → d < N) ∧ trOp P ch o = some x.op ∧ (∀ f as_, x.op = AOp.call f as_ → callOk P f = true) ∧
    (x.guard = none → Region.wanted o (yielded ops a.tmps) = true) ∧ (∀ t want b, x.guard = some (t, want) → lk s.ρ t = some (.iv (.bool b)) → Region.wanted o (yielded ops a.tmps) = decide (b = want)) ∧
    (∀ t want, x.guard = some (t, want) → lk s.ρ t = some .dead → Region.wanted o (yielded ops a.tmps) = false) := by
  unfold trIns at htr
  split at htr
  · rename_i hd
    split at htr
    · rename_i ao hao
      split at htr
      · rename_i hcall
        have hdst : ∀ d, o.dst = some d → d < N := by
          intro d e; rw [e] at hd; simpa [dstOk] using hd
        have hcall' : ∀ f as_, ao = AOp.call f as_ → callOk P f = true := by rintro f as_ rfl; exact hcall
        split at htr
        · rename_i hg
          injection htr with htr; subst htr
          exact ⟨rfl, hdst, hao, hcall', fun _ => by simp [Region.wanted, hg], (fun t want b h => by cases h), (fun t want h => by cases h)⟩
        · rename_i j want hg
          split at htr
          · rename_i t hjt
            injection htr with htr; subst htr
            refine ⟨rfl, hdst, hao, hcall', (fun h => by cases h), ?_, ?_⟩
            rotate_left
            · intro t' want' h hb
              injection h with h; injection h with h3 h4; subst h3; subst h4
              obtain ⟨u, hu, hru⟩ := hs.tmps t _ hb
              cases hru
              have hy : yielded ops a.tmps j = none := by
                cases hop : ops[j]? with
                | none => simp [hop] at hjt
                | some oj =>
                  simp only [hop, Option.bind_some] at hjt
                  simp only [yielded, hop, Option.bind_some, hjt, hu]
                  rfl
              simp only [Region.wanted, hg, hy]
              rfl
            intro t' want' b h hb
            injection h with h; injection h with h3 h4; subst h3; subst h4
            obtain ⟨u, hu, hru⟩ := hs.tmps t _ hb
            have hub : a.tmps[t]? = some (.bool b) := by
              cases hru with
              | iv _ _ hru => cases hru; exact hu
            have hy : yielded ops a.tmps j = some b := by
              cases hop : ops[j]? with
              | none => simp [hop] at hjt
              | some oj =>
                simp only [hop, Option.bind_some] at hjt
                simp only [yielded, hop, Option.bind_some, hjt, hub]
            simp only [Region.wanted, hg, hy]
            cases b <;> cases want <;> rfl
          · cases htr
      · cases htr
    · cases htr
  · cases htr

/-- One more operation has been done. -/
theorem DInv.next (hl : is.length = ops.size) (hc : Chk ops is bd anc) (ch : Chain P is bd X S) {K0 : Kr} {w0 : World} {df : List Deferred} {L : Array Bool} {a : Act} {w : World} (hi : DInv N ops is bd S K0 w0 df L a w)
    {i : Nat} {x : AIns} (hx : is[i]? = some x) (hL : L[i]? = some false) (hready : ∀ o : Oper, ops[i]? = some o → ∀ e ∈ o.after, bindsAny e = true → L[e.on]? = some true)
    {K : Kr} {s : St} (hE : Evo K0 (S 0).σ w0 K s.σ w)
    (h1 : ∀ (j : Nat) (y : AIns) (d : Nat), is[j]? = some y → L[j]? = some true → y.dst = some d → lk s.ρ d = lk (S (j + 1)).ρ d) (h2 : ∀ t, (∀ (j : Nat) (y : AIns), is[j]? = some y → L[j]? = some true → y.dst ≠ some t) → lk s.ρ t = lk (S 0).ρ t)
    {m : Nat} (hm : m ≤ ops.size) (h3 : ∀ j : Nat, j < ops.size → bd.contains j = true → (L[j]? = some true ↔ j < m)) (h4 : s.σ = (S m).σ)
    {K' : Kr} {s' : St} {a' : Act} {w' : World} (hs' : SRel N K' s' a' w') (hE' : Evo K s.σ w K' s'.σ w') (hd : a'.defers = a.defers)
    (hρ : ∀ t, lk s'.ρ t = if x.dst = some t then lk (S (i + 1)).ρ t else lk s.ρ t) (hσ : (bd.contains i = false ∧ s'.σ = s.σ) ∨ (bd.contains i = true ∧ s'.σ = (S (i + 1)).σ)) :
    DInv N ops is bd S K0 w0 df (L.setIfInBounds i true) a' w' := by
  have hilt : i < ops.size := by have := (List.getElem?_eq_some_iff.1 hx).1; omega
  have hLi : ∀ j : Nat, (L.setIfInBounds i true)[j]? = some true ↔ (j = i ∨ L[j]? = some true) := by
    intro j
    by_cases e : i = j
    · subst e; simp [hi.size, hilt]
    · rw [Array.getElem?_setIfInBounds_ne e]
      constructor
      · exact fun h => .inr h
      · rintro (h | h)
        · exact absurd h.symm e
        · exact h
  refine ⟨by simp [hi.size], ?_, hd.trans hi.defers, K', s', hs', hE.trans hE', ?_, ?_, ?_⟩
  · intro j o ho hj e he hb
    rw [hLi] at hj ⊢
    rcases hj with rfl | hj
    · exact .inr (hready o ho e he hb)
    · exact .inr (hi.closed j o ho hj e he hb)
  · intro j y d hy hj hd'
    rw [hLi] at hj
    rw [hρ]
    rcases hj with rfl | hj
    · rw [hx] at hy; injection hy with hy; subst hy
      rw [if_pos hd']
    · have hne : j ≠ i := by rintro rfl; rw [hL] at hj; cases hj
      have : x.dst ≠ some d := by
        intro e
        rcases Nat.lt_or_gt_of_ne hne with h | h
        · exact hc.dst j i y x d h hy hx hd' e
        · exact hc.dst i j x y d h hx hy e hd'
      rw [if_neg this]
      exact h1 j y d hy hj hd'
  · intro t ht
    rw [hρ, if_neg (ht i x hx ((hLi i).2 (.inl rfl)))]
    exact h2 t fun j y hy hj => ht j y hy ((hLi j).2 (.inr hj))
  · rcases hσ with ⟨hb, e⟩ | ⟨hb, e⟩
    · refine ⟨m, hm, ?_, e.trans h4⟩
      intro j hj hbj
      rw [hLi, ← h3 j hj hbj]
      constructor
      · rintro (rfl | h)
        · rw [hb] at hbj; cases hbj
        · exact h
      · exact fun h => .inr h
    · refine ⟨i + 1, hilt, ?_, e⟩
      intro j hj hbj
      rw [hLi]
      have hbo : ∃ y, is[j]? = some y := ⟨is[j]'(by omega), by simp⟩
      obtain ⟨y, hy⟩ := hbo
      rcases Nat.lt_trichotomy j i with h | h | h
      · have := anc_done hc hi.closed hi.size i hready j (hc.ord j i y x h hy hx (by simp only [clash, hb, hbj]; simp)) hilt
        exact ⟨fun _ => by omega, fun _ => .inr this⟩
      · exact ⟨fun _ => by omega, fun _ => .inl h⟩
      · refine ⟨?_, fun h' => by omega⟩
        rintro (h' | h')
        · omega
        · have := anc_done hc hi.closed hi.size j (fun o ho e' he' hb' => hi.closed j o ho h' e' he' hb') i (hc.ord i j x y h hx hy (by simp only [clash, hb, hbj]; simp)) hj
          rw [hL] at this; cases this

theorem drawn_ok (hl : is.length = ops.size) (hc : Chk ops is bd anc) (ch : Chain P is bd X S) (htr : ∀ (i : Nat) (o : Oper), ops[i]? = some o → ∃ x c, is[i]? = some x ∧ trIns P N ops c o = some x)
    {K0 : Kr} {w0 : World} {df : List Deferred} {Q : Exit → Act → World → Prop} (hk : ∀ K1 s1 a1 w1, SRel N K1 s1 a1 w1 → Evo K0 (S 0).σ w0 K1 s1.σ w1 → a1.defers = df → (∀ t, lk s1.ρ t = lk (S ops.size).ρ t) → s1.σ = (S ops.size).σ → Q .normal a1 w1) :
    ∀ (fuel : Nat) (L : Array Bool) (a : Act) (w : World), DInv N ops is bd S K0 w0 df L a w → (List.range ops.size).countP (fun j => !L.getD j true) ≤ fuel → wpAny P .any ops Q fuel L a w := by
  have fin : ∀ (L : Array Bool) (a : Act) (w : World), DInv N ops is bd S K0 w0 df L a w → Region.ready .any ops L = [] → Q .normal a w := by
    intro L a w hi hr
    have all : ∀ j, j < ops.size → L[j]? = some true := by
      intro j
      induction j using Nat.strongRecOn with
      | _ j ih =>
        intro hj
        have hjl : j < L.size := by rw [hi.size]; exact hj
        cases hb : L[j] with
        | true => simp [hjl, hb]
        | false =>
          exfalso
          have : j ∈ Region.ready .any ops L := by
            unfold Region.ready
            rw [List.mem_filter]
            refine ⟨by simpa using hj, ?_⟩
            have ho : ops[j]? = some ops[j] := by simp [hj]
            have hLj : L.getD j true = false := by simp [Array.getD_eq_getD_getElem?, hjl, hb]
            rw [hLj, ho]
            simp only [Bool.not_false, Bool.true_and, Option.map_some, Option.getD_some]
            rw [Array.all_eq_true_iff_forall_mem]
            intro e he
            by_cases hbe : Region.binds .any e = true
            · have h1 := hc.back j _ ho e he hbe
              have := ih e.on h1 (by omega)
              simp [Array.getD_eq_getD_getElem?, this]
            · simp [hbe]
          rw [hr] at this
          cases this
    obtain ⟨K, s, hs, hE, h1, h2, m, hm, h3, h4⟩ := hi.st
    refine hk K s a w hs hE hi.defers ?_ ?_
    · intro t
      by_cases hw : ∃ (j : Nat) (y : AIns), is[j]? = some y ∧ y.dst = some t
      · obtain ⟨j, y, hy, hd⟩ := hw
        have hjl : j < is.length := (List.getElem?_eq_some_iff.1 hy).1
        rw [h1 j y t hy (all j (by omega)) hd]
        have := ch.lk_same t (ops.size - (j + 1)) (j + 1) (by omega) (fun k z hk1 _ hz e => hc.dst j k y z t (by omega) hy hz hd e)
        rw [show j + 1 + (ops.size - (j + 1)) = ops.size by omega] at this
        exact this.symm
      · rw [h2 t (fun j y hy _ e => hw ⟨j, y, hy, e⟩)]
        have := ch.lk_same t ops.size 0 (by omega) (fun k z _ _ hz e => hw ⟨k, z, hz, e⟩)
        simpa using this.symm
    · rw [h4]
      have := ch.σ_same (ops.size - m) m (by omega) (fun j hj1 hj2 => by
        cases hb : bd.contains j with
        | false => rfl
        | true =>
          have := (h3 j (by omega) hb).1 (all j (by omega))
          omega)
      rw [show m + (ops.size - m) = ops.size by omega] at this
      exact this.symm
  intro fuel
  induction fuel with
  | zero =>
    intro L a w hi hcnt
    have hr : Region.ready .any ops L = [] := by
      unfold Region.ready
      rw [List.filter_eq_nil_iff]
      intro j hj
      have := List.countP_eq_zero.1 (Nat.le_zero.1 hcnt) j hj
      simp only [Bool.not_eq_true] at this
      rw [this]
      simp
    exact ⟨hr, fin L a w hi hr⟩
  | succ fuel ih =>
    intro L a w hi hcnt
    refine ⟨fun hr => fin L a w hi hr, ?_⟩
    intro i hir
    unfold Region.ready at hir
    rw [List.mem_filter] at hir
    obtain ⟨hir1, hir2⟩ := hir
    have hilt : i < ops.size := by simpa using hir1
    have hil : i < L.size := by rw [hi.size]; exact hilt
    have ho : ops[i]? = some ops[i] := by simp [hilt]
    simp only [Bool.and_eq_true, Bool.not_eq_true', ho, Option.map_some, Option.getD_some] at hir2
    have hLi : L[i]? = some false := by
      have := hir2.1
      simp only [Array.getD_eq_getD_getElem?, Array.getElem?_eq_getElem hil, Option.getD_some] at this
      simp [hil, this]
    have hready : ∀ o : Oper, ops[i]? = some o → ∀ e ∈ o.after, bindsAny e = true → L[e.on]? = some true := by
      intro o ho' e he hb
      rw [ho] at ho'; injection ho' with ho'; subst ho'
      have := (Array.all_eq_true_iff_forall_mem.1 hir2.2) e he
      have hb' : Region.binds .any e = true := hb
      rw [hb'] at this
      simp only [Bool.not_true, Bool.false_or] at this
      cases hL2 : L[e.on]? with
      | none => simp [Array.getD_eq_getD_getElem?, hL2] at this
      | some b => simp [Array.getD_eq_getD_getElem?, hL2] at this; rw [this]
    obtain ⟨x, c, hx, hxtr⟩ := htr i _ ho
    obtain ⟨K, s, hs, hE, h1, h2, m, hm, h3, h4⟩ := hi.st
    have hturn := at_turn hl hc ch hi hx hLi hready h1 h2
    obtain ⟨w1, w2, w3, w4, w5, w6, w7⟩ := wanted_of hxtr hs
    have hstep := ch.step i x hx
    have hcnt' : (List.range ops.size).countP (fun j => !(L.setIfInBounds i true).getD j true) ≤ fuel := by
      have hlt := countP_lt (p := fun j => !L.getD j true) (q := fun j => !(L.setIfInBounds i true).getD j true) (l := List.range ops.size) (fun j hj => by
        by_cases e : i = j
        · subst e; simp [Array.getD_eq_getD_getElem?, hil] at hj
        · simpa [Array.getD_eq_getD_getElem?, Array.getElem?_setIfInBounds_ne e] using hj) (i := i) hir1 (by simpa using hir2.1) (by simp [Array.getD_eq_getD_getElem?, hil])
      omega
    have hσi : bd.contains i = true → s.σ = (S i).σ := by
      intro hb
      rw [h4]
      have hbo : ∀ j : Nat, j < ops.size → bd.contains j = true → (j < m ↔ j < i) := by
        intro j hj hbj
        rw [← h3 j hj hbj]
        have hy : is[j]? = some (is[j]'(by omega)) := by simp
        rcases Nat.lt_trichotomy j i with h | h | h
        · have := anc_done hc hi.closed hi.size i hready j (hc.ord j i _ x h hy hx (by simp only [clash, hb, hbj]; simp)) hilt
          exact ⟨fun _ => h, fun _ => this⟩
        · subst h; rw [hLi]; simp
        · refine ⟨fun h' => ?_, fun h' => by omega⟩
          have := anc_done hc hi.closed hi.size j (fun o ho e' he' hb' => hi.closed j o ho h' e' he' hb') i (hc.ord i j x _ h hx hy (by simp only [clash, hb, hbj]; simp)) hj
          rw [hLi] at this; cases this
      rcases Nat.le_total m i with h | h
      · have := ch.σ_same (i - m) m (by omega) (fun j hj1 hj2 => by
          cases hbj : bd.contains j with
          | false => rfl
          | true => have := (hbo j (by omega) hbj).2 (by omega); omega)
        rw [show m + (i - m) = i by omega] at this
        exact this.symm
      · have := ch.σ_same (m - i) i (by omega) (fun j hj1 hj2 => by
          cases hbj : bd.contains j with
          | false => rfl
          | true => have := (hbo j (by omega) hbj).1 (by omega); omega)
        rw [show i + (m - i) = m by omega] at this
        exact this
    have hev : ∀ y ∈ opds x.op, ev s.ρ y = ev (S i).ρ y := by
      intro y hy
      cases y with
      | t n => exact hturn n (reads_mem hy)
      | c v => rfl
    -- the operation is carried out
    have hXi : bd.contains (i + 1000000) = true → ∀ p ∈ X, lk s.σ p = lk (S i).σ p := by
      intro hrd p hp
      have hex : ∀ j, j < ops.size → (j < m ∨ j < i) → bd.contains j = true → bd.contains (j + 2000000) = false := by
        intro j hj hjm hbj
        cases hb2 : bd.contains (j + 2000000) with
        | false => rfl
        | true =>
          exfalso
          have hanc := hc.ex i j hilt hj hbj hb2 hrd
          rcases hjm with hjm | hji
          · have hLj := (h3 j hj hbj).2 hjm
            have := anc_done hc hi.closed hi.size j (fun o ho e' he' hb' => hi.closed j o ho hLj e' he' hb') i hanc hj
            rw [hLi] at this; cases this
          · have hlt : ∀ (j : Nat), j < ops.size → ∀ a ∈ anc.getD j [], a < j := by
              intro j
              induction j using Nat.strongRecOn with
              | _ j ih2 =>
                intro hj a ha
                obtain ⟨e, _, _, q1, q2⟩ := hc.up j ops[j] (by simp [hj]) a ha
                rcases q2 with rfl | q2
                · exact q1
                · exact Nat.lt_trans (ih2 e.on q1 (by omega) a q2) q1
            have := hlt j hj i hanc
            omega
      rw [h4, ch.X_same hp m (by omega) (fun j hj hbj => hex j (by omega) (.inl hj) hbj), ch.X_same hp i (by omega) (fun j hj hbj => hex j (by omega) (.inr hj) hbj)]
    have go : DOneX P bd X i x (S i) (S (i + 1)) →
        ops[i].wp P a w (wpAny P .any ops Q fuel (L.setIfInBounds i true)) Q := by
      intro h
      obtain ⟨R, hst, hR⟩ : ∃ R, Step P s x.op R ∧ ∀ r' σ', R r' σ' → (∀ t, x.dst = some t → lk (S (i + 1)).ρ t = some r') ∧ ((bd.contains i = false ∧ σ' = s.σ) ∨ (bd.contains i = true ∧ σ' = (S (i + 1)).σ)) := by
        rcases h with ⟨hb, r, hf | ⟨hrd, hf⟩, e⟩ | ⟨hb, r, σ1, hf, _, e⟩
        rotate_left
        · have h5 := hf s.σ (hXi hrd)
          refine ⟨_, .op x.op r s.σ (by rw [aop_congr hev]; exact h5), fun r' σ' hr => ?_⟩
          obtain ⟨rfl, rfl⟩ := hr
          exact ⟨fun t ht => by rw [e, lk_put, if_pos ht], .inl ⟨hb, rfl⟩⟩
        rotate_left
        · obtain ⟨R, h5, h6⟩ := hf.step s hev
          refine ⟨R, h5, fun r' σ' hr => ?_⟩
          obtain ⟨rfl, rfl⟩ := h6 r' σ' hr
          exact ⟨fun t ht => by rw [e, lk_put, if_pos ht], .inl ⟨hb, rfl⟩⟩
        · obtain ⟨R, h5, h6⟩ := hf.step s hev (hσi hb)
          refine ⟨R, h5, fun r' σ' hr => ?_⟩
          obtain ⟨rfl, rfl⟩ := h6 r' σ' hr
          exact ⟨fun t ht => by rw [e, lk_put, if_pos ht], .inr ⟨hb, by rw [e, St.put_σ]⟩⟩
      refine Oper.wp_mono ?_ (hst.wp (N := N) w3 w4 K a w Q hs)
      rintro a1 w1' ⟨r', σ', K', u, rfl, hr', g1, g2, g3⟩
      obtain ⟨q1, q2⟩ := hR r' σ' hr'
      have hs1 := TRel.put hs g3.le g2 g1 w2
      refine ih _ _ _ (hi.next hl hc ch hx hLi hready hE h1 h2 hm h3 h4 hs1 (by rw [St.put_σ]; exact g3) (put_defers _ _ _) ?_ ?_) hcnt'
      · intro t
        rw [lk_put, w1]
        by_cases e : ops[i].dst = some t
        · rw [if_pos e, if_pos e, q1 t (w1.trans e)]
        · rw [if_neg e, if_neg e]
      · rw [St.put_σ]; exact q2
    show wpOp P ops Q i _ a w
    unfold wpOp
    rw [ho]
    simp only
    unfold DStepX at hstep
    cases hg : x.guard with
    | none =>
      rw [hg] at hstep
      rw [w5 hg, if_pos rfl]
      exact .inl (go hstep)
    | some tw =>
      obtain ⟨t, want⟩ := tw
      rw [hg] at hstep
      -- where it is left out
      have skip : Region.wanted ops[i] (yielded ops a.tmps) = false → S (i + 1) = (S i).put x.dst .dead → (if Region.wanted ops[i] (yielded ops a.tmps) then ops[i].wp P a w (wpAny P .any ops Q fuel (L.setIfInBounds i true)) Q ∨ (ops[i].asks P a w ∧ LetsOut Q) else wpAny P .any ops Q fuel (L.setIfInBounds i true) (a.put ops[i].dst undef) w) := by
        intro hw e
        rw [hw, if_neg (by simp)]
        have hs1 := TRel.put hs (Kr.Le.refl _ _) hs.slots TRel.dead w2
        refine ih _ _ _ (hi.next hl hc ch hx hLi hready hE h1 h2 hm h3 h4 hs1 (by rw [St.put_σ]; exact Evo.refl _ _ _) (put_defers _ _ _) ?_ ?_) hcnt'
        · intro t'
          rw [lk_put, w1]
          by_cases e' : ops[i].dst = some t'
          · rw [if_pos e', if_pos e', e, lk_put, if_pos (w1.trans e')]
          · rw [if_neg e', if_neg e']
        · rw [St.put_σ]
          cases hbi : bd.contains i with
          | false => exact .inl ⟨rfl, rfl⟩
          | true => exact .inr ⟨rfl, by rw [e, St.put_σ]; exact hσi hbi⟩
      rcases hstep with ⟨hb, e⟩ | ⟨b, hb, h5, h6⟩
      · have hbs : lk s.ρ t = some .dead := by rw [hturn t (guard_mem hg)]; exact hb
        exact skip (w7 t want hg hbs) e
      have hbs : lk s.ρ t = some (.iv (.bool b)) := by rw [hturn t (guard_mem hg)]; exact hb
      have hwb := w6 t want b hg hbs
      by_cases hbw : b = want
      · rw [hwb, if_pos (by simpa using hbw)]
        exact .inl (go (h5 hbw))
      · exact skip (by rw [hwb]; simpa using hbw) (h6 hbw)

end
end Go.Proofs.YtdlgenppdgkacaaGreatDoor.Ag
