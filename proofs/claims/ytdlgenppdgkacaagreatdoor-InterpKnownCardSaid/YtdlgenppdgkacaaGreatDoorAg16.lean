/- How a walk goes: regions as far as they go, calls by their contracts, conditions, loops. -/
import Derived.Test.YtdlgenppdgkacaaGreatDoorAg15
set_option linter.unusedVariables false
set_option linter.unusedSimpArgs false
namespace Go.Proofs.YtdlgenppdgkacaaGreatDoor.Ag
open Go.RowKit (Below)

/-- As far as the operations go by themselves. -/
def runTo : List AIns → St → St × List AIns
  | [], s => (s, [])
  | i :: is, s =>
    match i.guard with
    | none => match aop s.ρ s.σ i.op with
      | some (r, σ') => runTo is ({ s with σ := σ' }.put i.dst r)
      | none => (s, i :: is)
    | some (t, want) => match lk s.ρ t with
      | some (.iv (.bool b)) => if b = want then match aop s.ρ s.σ i.op with
          | some (r, σ') => runTo is ({ s with σ := σ' }.put i.dst r)
          | none => (s, i :: is)
        else runTo is (s.put i.dst .dead)
      | _ => (s, i :: is)

theorem wpr_runTo {P : Program} {K : St → Prop} : ∀ {is : List AIns} {s : St}, wpr P (runTo is s).2 K (runTo is s).1 → wpr P is K s
  | [], s, h => h
  | i :: is, s, h => by
    simp only [runTo] at h
    split at h
    · rename_i hg
      split at h
      · rename_i r σ' hop
        simp only [wpr, hg]
        exact ⟨_, .op _ r σ' hop, by rintro r' σ'' ⟨rfl, rfl⟩; exact wpr_runTo h⟩
      · exact h
    · rename_i t want hg
      split at h
      · rename_i b hb
        split at h
        · rename_i hbw
          split at h
          · rename_i r σ' hop
            exact wpr_guard hg ⟨b, hb, .inl ⟨fun _ => ⟨_, .op _ r σ' hop, by rintro r' σ'' ⟨rfl, rfl⟩; exact wpr_runTo h⟩, fun hn => absurd hbw hn⟩⟩
          · exact h
        · rename_i hbw
          exact wpr_guard hg ⟨b, hb, .inl ⟨fun hb' => absurd hb' hbw, fun _ => wpr_runTo h⟩⟩
      · exact h

/-- The same, what is guarded told as 'where the guard holds'. -/
def runI : List AIns → St → St × List AIns
  | [], s => (s, [])
  | i :: is, s =>
    match i.guard with
    | none => match aop s.ρ s.σ i.op with
      | some (r, σ') => runI is ({ s with σ := σ' }.put i.dst r)
      | none => (s, i :: is)
    | some (t, want) => match lk s.ρ t with
      | some (.iv (.bool b)) => match aop (gρ (b == want) s.ρ (opds i.op)) [] i.op with
        | some (r, []) => runI is (s.put i.dst (.ifb (b == want) r))
        | _ => (s, i :: is)
      | _ => (s, i :: is)
theorem wpr_runI {P : Program} {K : St → Prop} : ∀ {is : List AIns} {s : St}, wpr P (runI is s).2 K (runI is s).1 → wpr P is K s
  | [], s, h => h
  | i :: is, s, h => by
    simp only [runI] at h
    split at h
    · rename_i hg
      split at h
      · rename_i r σ' hop
        simp only [wpr, hg]
        exact ⟨_, .op _ r σ' hop, by rintro r' σ'' ⟨rfl, rfl⟩; exact wpr_runI h⟩
      · exact h
    · rename_i t want hg
      split at h
      · rename_i b hb
        split at h
        · rename_i r hop
          exact wpr_guard hg ⟨b, hb, .inr ⟨r, hop, wpr_runI h⟩⟩
        · exact h
      · exact h
/-! The same runs, told so that what comes behind an operation is looked at only when the operation has given. -/
def conT (is : List AIns) (s : St) (i : AIns) : Option (TV × Slots) → St × List AIns
  | some (r, σ') => runTo is ({ s with σ := σ' }.put i.dst r)
  | none => (s, i :: is)
def conB (is : List AIns) (s : St) (i : AIns) : Bool → St × List AIns
  | true => conT is s i (aop s.ρ s.σ i.op)
  | false => runTo is (s.put i.dst .dead)
def conG (is : List AIns) (s : St) (i : AIns) (want : Bool) : Option TV → St × List AIns
  | some (.iv (.bool b)) => conB is s i (b == want)
  | _ => (s, i :: is)
theorem conT_some (is : List AIns) (s : St) (i : AIns) (r : TV) (σ' : Slots) : conT is s i (some (r, σ')) = runTo is ({ s with σ := σ' }.put i.dst r) := rfl
theorem conT_none (is : List AIns) (s : St) (i : AIns) : conT is s i none = (s, i :: is) := rfl
theorem conB_true (is : List AIns) (s : St) (i : AIns) : conB is s i true = conT is s i (aop s.ρ s.σ i.op) := rfl
theorem conB_false (is : List AIns) (s : St) (i : AIns) : conB is s i false = runTo is (s.put i.dst .dead) := rfl
theorem conG_bool (is : List AIns) (s : St) (i : AIns) (want b : Bool) : conG is s i want (some (.iv (.bool b))) = conB is s i (b == want) := rfl
theorem runTo_nil (s : St) : runTo [] s = (s, []) := rfl
theorem runTo_n (d : Option Nat) (op : AOp) (is : List AIns) (s : St) : runTo (⟨d, none, op⟩ :: is) s = conT is s ⟨d, none, op⟩ (aop s.ρ s.σ op) := by
  simp only [runTo]
  cases h : aop s.ρ s.σ op with
  | none => rfl
  | some p => rfl
theorem runTo_g (d : Option Nat) (t : Nat) (want : Bool) (op : AOp) (is : List AIns) (s : St) : runTo (⟨d, some (t, want), op⟩ :: is) s = conG is s ⟨d, some (t, want), op⟩ want (lk s.ρ t) := by
  simp only [runTo]
  split
  · rename_i b hb
    rw [hb, conG_bool]
    by_cases hbw : b = want
    · subst hbw
      rw [if_pos rfl, beq_self_eq_true, conB_true]
      cases h : aop s.ρ s.σ op with
      | none => rfl
      | some p => rfl
    · have : (b == want) = false := by simpa using hbw
      rw [if_neg hbw, this, conB_false]
  · rename_i hb
    unfold conG
    split
    · rename_i b hb'; exact (hb b hb').elim
    · rfl
def conBI (is : List AIns) (s : St) (i : AIns) (c : Bool) : Option (TV × Slots) → St × List AIns
  | some (r, []) => runI is (s.put i.dst (.ifb c r))
  | _ => (s, i :: is)
def conGI (is : List AIns) (s : St) (i : AIns) (want : Bool) : Option TV → St × List AIns
  | some (.iv (.bool b)) => conBI is s i (b == want) (aop (gρ (b == want) s.ρ (opds i.op)) [] i.op)
  | _ => (s, i :: is)
def conTI (is : List AIns) (s : St) (i : AIns) : Option (TV × Slots) → St × List AIns
  | some (r, σ') => runI is ({ s with σ := σ' }.put i.dst r)
  | none => (s, i :: is)
theorem conTI_some (is : List AIns) (s : St) (i : AIns) (r : TV) (σ' : Slots) : conTI is s i (some (r, σ')) = runI is ({ s with σ := σ' }.put i.dst r) := rfl
theorem conTI_none (is : List AIns) (s : St) (i : AIns) : conTI is s i none = (s, i :: is) := rfl
theorem conBI_some (is : List AIns) (s : St) (i : AIns) (c : Bool) (r : TV) : conBI is s i c (some (r, [])) = runI is (s.put i.dst (.ifb c r)) := rfl
theorem conBI_none (is : List AIns) (s : St) (i : AIns) (c : Bool) : conBI is s i c none = (s, i :: is) := rfl
theorem conGI_bool (is : List AIns) (s : St) (i : AIns) (want b : Bool) : conGI is s i want (some (.iv (.bool b))) = conBI is s i (b == want) (aop (gρ (b == want) s.ρ (opds i.op)) [] i.op) := rfl
theorem runI_nil (s : St) : runI [] s = (s, []) := rfl
theorem runI_n (d : Option Nat) (op : AOp) (is : List AIns) (s : St) : runI (⟨d, none, op⟩ :: is) s = conTI is s ⟨d, none, op⟩ (aop s.ρ s.σ op) := by
  simp only [runI]
  cases h : aop s.ρ s.σ op with
  | none => rfl
  | some p => rfl
theorem runI_g (d : Option Nat) (t : Nat) (want : Bool) (op : AOp) (is : List AIns) (s : St) : runI (⟨d, some (t, want), op⟩ :: is) s = conGI is s ⟨d, some (t, want), op⟩ want (lk s.ρ t) := by
  simp only [runI]
  split
  · rename_i b hb
    rw [hb, conGI_bool]
    split
    · rename_i r hr; simp only [hr, conBI]
    · rename_i hr
      unfold conBI
      split
      · rename_i r hr'; exact (hr r hr').elim
      · rfl
  · rename_i hb
    unfold conGI
    split
    · rename_i b hb'; exact (hb b hb').elim
    · rfl

theorem wpc_regionI {P : Program} {is : List AIns} {Q : AEx → St → Prop} {s : St} (h : ∀ K : St → Prop, (∀ s, Q .normal s → K s) → wpr P (runI is s).2 K (runI is s).1) : wpc P (.region is) Q s :=
  ⟨s.ρ, fun _ _ h => h, wpr_runI (h _ fun _ h => h)⟩
theorem wpc_region {P : Program} {is : List AIns} {Q : AEx → St → Prop} {s : St} (h : ∀ K : St → Prop, (∀ s, Q .normal s → K s) → wpr P (runTo is s).2 K (runTo is s).1) : wpc P (.region is) Q s :=
  ⟨s.ρ, fun _ _ h => h, wpr_runTo (h _ fun _ h => h)⟩
/-- Only some slots are carried on. -/
def keepρ : List Nat → List (Nat × TV) → List (Nat × TV)
  | [], _ => []
  | t :: ts, ρ => match lk ρ t with
    | some v => (t, v) :: keepρ ts ρ
    | none => keepρ ts ρ
theorem keep_sub : ∀ (ts : List Nat) (ρ : List (Nat × TV)), SubS (keepρ ts ρ) ρ
  | [], ρ, t, v, h => by simp [keepρ, lk] at h
  | u :: ts, ρ, t, v, h => by
    simp only [keepρ] at h
    split at h
    · rename_i x hx
      simp only [lk] at h
      split at h
      · rename_i e; subst e; rw [← h]; exact hx
      · exact keep_sub ts ρ t v h
    · exact keep_sub ts ρ t v h
theorem wpc_regionK (ts : List Nat) {P : Program} {is : List AIns} {Q : AEx → St → Prop} {s : St} (h : ∀ K : St → Prop, (∀ s, Q .normal s → K s) → wpr P (runTo is { s with ρ := keepρ ts s.ρ }).2 K (runTo is { s with ρ := keepρ ts s.ρ }).1) : wpc P (.region is) Q s :=
  ⟨_, keep_sub ts s.ρ, wpr_runTo (h _ fun _ h => h)⟩
theorem wpc_regionKI (ts : List Nat) {P : Program} {is : List AIns} {Q : AEx → St → Prop} {s : St} (h : ∀ K : St → Prop, (∀ s, Q .normal s → K s) → wpr P (runI is { s with ρ := keepρ ts s.ρ }).2 K (runI is { s with ρ := keepρ ts s.ρ }).1) : wpc P (.region is) Q s :=
  ⟨_, keep_sub ts s.ρ, wpr_runI (h _ fun _ h => h)⟩
theorem wpc_skip' {P : Program} {Q : AEx → St → Prop} {s : St} (h : Q .normal s) : wpc P .skip Q s := h
theorem wpc_ret {P : Program} {Q : AEx → St → Prop} {s : St} : wpc P .ret Q s = Q .ret s := rfl
theorem wpc_skip {P : Program} {Q : AEx → St → Prop} {s : St} : wpc P .skip Q s = Q .normal s := rfl
theorem wpc_seq {P : Program} {a b : ACode} {Q : AEx → St → Prop} {s : St} (h : wpc P a (thenC (wpc P b Q) Q) s) : wpc P (.seq a b) Q s := h
theorem wpc_mono {P : Program} : ∀ (c : ACode) (Q1 Q2 : AEx → St → Prop) (s : St), (∀ e s, Q1 e s → Q2 e s) → wpc P c Q1 s → wpc P c Q2 s := by
  intro c
  induction c with
  | skip => intro Q1 Q2 s hq h; exact hq _ _ h
  | region is =>
    intro Q1 Q2 s hq h
    have mono : ∀ (is : List AIns) (K1 K2 : St → Prop) (s : St), (∀ s, K1 s → K2 s) → wpr P is K1 s → wpr P is K2 s := by
      intro is
      induction is with
      | nil => intro K1 K2 s hk h; exact hk s h
      | cons i is ih =>
        intro K1 K2 s hk h
        simp only [wpr] at h ⊢
        split
        · rename_i hg
          rw [hg] at h
          obtain ⟨R, h1, h2⟩ := h
          exact ⟨R, h1, fun r σ' hr => ih _ _ _ hk (h2 r σ' hr)⟩
        · rename_i t want hg
          rw [hg] at h
          obtain ⟨v, x, h1, hx, h23⟩ := h
          rcases h23 with ⟨h2, h3⟩ | ⟨r, h2, h3⟩
          · refine ⟨v, x, h1, hx, .inl ⟨fun hb => ?_, fun hb => ih _ _ _ hk (h3 hb)⟩⟩
            obtain ⟨R, h4, h5⟩ := h2 hb
            exact ⟨R, h4, fun r σ' hr => ih _ _ _ hk (h5 r σ' hr)⟩
          · exact ⟨v, x, h1, hx, .inr ⟨r, h2, ih _ _ _ hk h3⟩⟩
    obtain ⟨ρ', hsub, h⟩ := h
    exact ⟨ρ', hsub, mono is _ _ _ (fun s h => hq _ _ h) h⟩
  | draw bd is =>
    intro Q1 Q2 s hq h
    have mono : ∀ (is : List AIns) (k : Nat) (K1 K2 : St → Prop) (s : St), (∀ s, K1 s → K2 s) → wprd P bd k is K1 s → wprd P bd k is K2 s := by
      intro is
      induction is with
      | nil => intro k K1 K2 s hk h; exact hk s h
      | cons i is ih =>
        intro k K1 K2 s hk h
        obtain ⟨s', h1, h2⟩ := h
        exact ⟨s', h1, ih _ _ _ _ hk h2⟩
    rcases h with h | ⟨X, S, h1, h2, h3⟩ | ⟨X, Pl, S, h1, h2, h3⟩ | ⟨X, Pl, S, h1, h2, h3⟩ | ⟨X, Pl, S, h1, h0, h2, h3⟩
    · exact .inl (mono is 0 _ _ s (fun s h => hq _ _ h) h)
    · exact .inr (.inl ⟨X, S, h1, h2, hq _ _ h3⟩)
    · exact .inr (.inr (.inl ⟨X, Pl, S, h1, h2, hq _ _ h3⟩))
    · exact .inr (.inr (.inr (.inl ⟨X, Pl, S, h1, h2, hq _ _ h3⟩)))
    · exact .inr (.inr (.inr (.inr ⟨X, Pl, S, h1, h0, h2, hq _ _ h3⟩)))
  | seq a b iha ihb =>
    intro Q1 Q2 s hq h
    refine iha _ _ s ?_ h
    intro e s h
    cases e with
    | normal => exact ihb _ _ s hq h
    | exit id => exact hq _ _ h
    | ret => exact hq _ _ h
  | cond c a b iha ihb =>
    intro Q1 Q2 s hq h
    obtain ⟨t, h1, h2, h3⟩ := h
    exact ⟨t, h1, fun ht => iha _ _ s hq (h2 ht), fun ht => ihb _ _ s hq (h3 ht)⟩
  | block id a iha =>
    intro Q1 Q2 s hq h
    refine iha _ _ s ?_ h
    intro e s h
    cases e with
    | normal => exact hq _ _ h
    | exit i =>
      simp only [blockC] at h ⊢
      split
      · rename_i e; rw [if_pos e] at h; exact hq _ _ h
      · rename_i e; rw [if_neg e] at h; exact hq _ _ h
    | ret => exact hq _ _ h
  | loop a iha =>
    intro Q1 Q2 s hq h
    obtain ⟨I, n, h0, hr⟩ := h
    refine ⟨I, n, h0, fun n s hi => iha _ _ s ?_ (hr n s hi)⟩
    intro e s h
    cases e with
    | normal => exact h
    | exit id => exact hq _ _ h
    | ret => exact hq _ _ h
  | exit id => intro Q1 Q2 s hq h; exact hq _ _ h
  | scope a iha => intro Q1 Q2 s hq h; exact iha _ _ s hq h
  | ext N p c =>
    intro Q1 Q2 s hq h n K a w hs hp
    refine wpIn_mono (h n K a w hs hp) ?_
    rintro e a' w' ⟨K', s', ae, h1, h2, h3, h4, h5, h6⟩
    exact ⟨K', s', ae, h1, h2, h3, h4, h5, hq _ _ h6⟩
  | label => intro Q1 Q2 s hq h; exact hq _ _ h
  | ret => intro Q1 Q2 s hq h; exact hq _ _ h

/-- Where ways meet again: what is known there. -/
theorem wpc_meet {P : Program} {a b : ACode} {Q : AEx → St → Prop} {s : St} (M : St → Prop) (h : wpc P a (thenC M Q) s) (k : ∀ s, M s → wpc P b Q s) : wpc P (.seq a b) Q s := by
  refine wpc_mono a _ _ s ?_ h
  intro e s h
  cases e with
  | normal => exact k s h
  | exit id => exact h
  | ret => exact h
/-- What is known behind a statement, where that alone goes on. -/
theorem wpc_to {P : Program} {a : ACode} {Q : AEx → St → Prop} {s : St} (M : St → Prop) (h : wpc P a (thenC M Q) s) (k : ∀ s, M s → Q .normal s) : wpc P a Q s := by
  refine wpc_mono a _ _ s ?_ h
  intro e s h
  cases e with
  | normal => exact k s h
  | exit id => exact h
  | ret => exact h

/-- The condition as it is; then each way. -/
def condP (v : Option TV) (A B : Prop) : Prop :=
  match v with
  | some (.iv (.bool t)) => if t then A else B
  | _ => False
theorem wpc_cond {P : Program} {c : AOpd} {a b : ACode} {Q : AEx → St → Prop} {s : St} (h : ∀ A B : Prop, (wpc P a Q s → A) → (wpc P b Q s → B) → condP (ev s.ρ c) A B) : wpc P (.cond c a b) Q s := by
  have := h _ _ id id
  unfold condP at this
  split at this
  · rename_i t ht
    refine ⟨t, ht, ?_, ?_⟩
    · rintro rfl; simpa using this
    · rintro rfl; simpa using this
  · exact this.elim
theorem wpc_true {P : Program} {c : AOpd} {a b : ACode} {Q : AEx → St → Prop} {s : St} (hc : ev s.ρ c = some (.iv (.bool true))) (h : wpc P a Q s) : wpc P (.cond c a b) Q s :=
  ⟨true, hc, fun _ => h, fun h => by cases h⟩
theorem wpc_false {P : Program} {c : AOpd} {a b : ACode} {Q : AEx → St → Prop} {s : St} (hc : ev s.ρ c = some (.iv (.bool false))) (h : wpc P b Q s) : wpc P (.cond c a b) Q s :=
  ⟨false, hc, fun h => (by cases h), fun _ => h⟩
theorem wpc_loop {P : Program} {a : ACode} {Q : AEx → St → Prop} {s : St} (I : Nat → St → Prop) (n : Nat) (h0 : I n s)
    (h : ∀ n s, I n s → ∀ K : St → Prop, (∀ s' n', n' < n → I n' s' → K s') → wpc P a (thenC K Q) s) : wpc P (.loop a) Q s :=
  ⟨I, n, ⟨s, .refl s, h0⟩, fun n s hi => h n s hi _ fun s' n' h1 h2 => ⟨n', h1, h2⟩⟩

/-- The arguments of a call. -/
def callArgs (s : St) (as_ : List AOpd) : Option (List IV × Slots) :=
  match evAll s.ρ as_ with
  | some vs => shutAll vs s.σ
  | none => none
theorem wpr_call {P : Program} {d : Option Nat} {f : FuncId} {as_ : List AOpd} {is : List AIns} {K : St → Prop} {s : St} {xs : List IV} {Q : IV → Prop} {σ' : Slots} (hf : FC P f xs Q) (ha : callArgs s as_ = some (xs, σ'))
    (k : ∀ x, Q x → wpr P (runTo is ({ s with σ := σ' }.put d (.iv x))).2 K (runTo is ({ s with σ := σ' }.put d (.iv x))).1) : wpr P (⟨d, none, .call f as_⟩ :: is) K s := by
  unfold callArgs at ha
  split at ha
  · rename_i vs hvs
    simp only [wpr]
    refine ⟨_, .call f as_ vs xs σ' Q hvs ha hf, ?_⟩
    rintro r σ'' ⟨⟨x, rfl, hx⟩, rfl⟩
    exact wpr_runTo (k x hx)
  · cases ha
theorem wpr_callE {P : Program} {d : Option Nat} {f : FuncId} {as_ : List AOpd} {is : List AIns} {K : St → Prop} {s : St} {xs : List IV} {r : IV} {σ' : Slots} (hf : FC P f xs (· = r)) (ha : callArgs s as_ = some (xs, σ'))
    (k : wpr P (runTo is ({ s with σ := σ' }.put d (.iv r))).2 K (runTo is ({ s with σ := σ' }.put d (.iv r))).1) : wpr P (⟨d, none, .call f as_⟩ :: is) K s :=
  wpr_call hf ha (by rintro x rfl; exact k)

theorem wpr_callT {P : Program} {d : Option Nat} {f : FuncId} {t : Nat} {want : Bool} {as_ : List AOpd} {is : List AIns} {K : St → Prop} {s : St} {xs : List IV} {r : IV} {σ' : Slots} (hf : FC P f xs (· = r)) (hg : lk s.ρ t = some (.iv (.bool want))) (ha : callArgs s as_ = some (xs, σ'))
    (k : wpr P (runTo is ({ s with σ := σ' }.put d (.iv r))).2 K (runTo is ({ s with σ := σ' }.put d (.iv r))).1) : wpr P (⟨d, some (t, want), .call f as_⟩ :: is) K s := by
  unfold callArgs at ha
  split at ha
  · rename_i vs hvs
    refine wpr_guard (i := ⟨d, some (t, want), .call f as_⟩) rfl ⟨want, hg, .inl ⟨fun _ => ⟨_, .call f as_ vs xs σ' _ hvs ha hf, ?_⟩, fun h => absurd rfl h⟩⟩
    rintro r σ'' ⟨⟨x, rfl, rfl⟩, rfl⟩
    exact wpr_runTo k
  · cases ha
/-- The arguments of a call that is lent a list. -/
def callArgsL (s : St) (a0 : AOpd) (as_ : List AOpd) : Option (Nat × Nat × Nat × Nat × List IV × List IV × Slots) :=
  match ev s.ρ a0 with
  | some (.lst k n) => match evAll s.ρ as_ with
    | some vs => match shutAll vs s.σ with
      | some (ys, σ1) => match lk σ1 k with
        | some (n', .list e sz xs) => if n' = n then some (k, n, e, sz, xs, ys, σ1) else none
        | _ => none
      | none => none
    | none => none
  | _ => none
theorem callArgsL_is {s : St} {a0 : AOpd} {as_ : List AOpd} {k n e sz : Nat} {xs ys : List IV} {σ1 : Slots} (h : callArgsL s a0 as_ = some (k, n, e, sz, xs, ys, σ1)) :
    ∃ vs, ev s.ρ a0 = some (.lst k n) ∧ evAll s.ρ as_ = some vs ∧ shutAll vs s.σ = some (ys, σ1) ∧ lk σ1 k = some (n, .list e sz xs) := by
  unfold callArgsL at h
  repeat' split at h
  all_goals first
    | (cases h; done)
    | skip
  injection h with h
  cases h
  subst_vars
  exact ⟨_, by assumption, by assumption, by assumption, by assumption⟩
theorem wpr_callL {P : Program} {d : Option Nat} {f : FuncId} {a0 : AOpd} {as_ : List AOpd} {is : List AIns} {K : St → Prop} {s : St} {k n e sz : Nat} {xs ys zs : List IV} {σ1 : Slots} (hf : LC P f e sz xs ys (· = zs)) (ha : callArgsL s a0 as_ = some (k, n, e, sz, xs, ys, σ1))
    (h : wpr P (runTo is ({ s with σ := upd σ1 k (n + 1, .list e sz zs) }.put d (.lst k (n + 1)))).2 K (runTo is ({ s with σ := upd σ1 k (n + 1, .list e sz zs) }.put d (.lst k (n + 1)))).1) : wpr P (⟨d, none, .call f (a0 :: as_)⟩ :: is) K s := by
  obtain ⟨vs, h0, h1, h2, h3⟩ := callArgsL_is ha
  simp only [wpr]
  refine ⟨_, .callL f a0 as_ k n e sz xs vs ys σ1 _ h0 h1 h2 h3 hf, ?_⟩
  rintro r σ'' ⟨zs', rfl, rfl, rfl⟩
  exact wpr_runTo h

/-- A call that gives a list: it is place 'k' from then on. -/
theorem wpr_callO {P : Program} (k : Nat) {d : Option Nat} {f : FuncId} {as_ : List AOpd} {is : List AIns} {K : St → Prop} {s : St} {e sz : Nat} {ys zs rets : List IV} {σ1 : Slots} (hf : OC P f ys e sz zs rets) (ha : callArgs s as_ = some (ys, σ1))
    (h : wpr P (runTo is ({ s with σ := upd σ1 k (nxt σ1 k, .list e sz zs) }.put d (ownRes k (nxt σ1 k) rets))).2 K (runTo is ({ s with σ := upd σ1 k (nxt σ1 k, .list e sz zs) }.put d (ownRes k (nxt σ1 k) rets))).1) : wpr P (⟨d, none, .call f as_⟩ :: is) K s := by
  unfold callArgs at ha
  split at ha
  · rename_i vs hvs
    simp only [wpr]
    refine ⟨_, .callO f as_ k e sz vs ys zs rets σ1 hvs ha hf, ?_⟩
    rintro r σ'' ⟨rfl, rfl⟩
    exact wpr_runTo h
  · cases ha
/-- .. the way back, of a body that ends with a list of its own. -/
theorem OC.of {P : Program} {f : FuncId} {fn : Func} {ch : List (Nat × List Nat)} {af : AFn} {ys zs rets : List IV} {e sz : Nat} (hf : P.funcs[f]? = some fn) (ht : trFn P ch fn = some af) (hn : ys.length ≤ fn.ntmps)
    (h : wpc P af.code (endsIn af.res fun r σ => ∃ m, r = ownRes 0 m rets ∧ σ = [(0, m, .list e sz zs)]) { ρ := args0 (ys.map .iv) 0, σ := [] }) : OC P f ys e sz zs rets :=
  GC.of hf ht (by simpa using hn) h
theorem endsO {rs : List ARes} {s : St} {m e sz : Nat} {zs rets : List IV} (h : retVals s rs = some (.lst 0 m :: rets.map .iv)) (hσ : s.σ = [(0, m, .list e sz zs)]) : endsIn rs (fun r σ => ∃ m, r = ownRes 0 m rets ∧ σ = [(0, m, .list e sz zs)]) .ret s :=
  ⟨trivial, _, h, m, by cases rets <;> rfl, hσ⟩

/-- What is returned. -/
theorem endsIn_ret {rs : List ARes} {Q : TV → Slots → Prop} {s : St} {vs : List TV} (h : retVals s rs = some vs) (hq : Q (oneOrTup vs) s.σ) : endsIn rs Q .ret s := ⟨trivial, vs, h, hq⟩
theorem endsIn_normal {rs : List ARes} {Q : TV → Slots → Prop} {s : St} {vs : List TV} (h : retVals s rs = some vs) (hq : Q (oneOrTup vs) s.σ) : endsIn rs Q .normal s := ⟨trivial, vs, h, hq⟩
/-- .. as a value of nobody's. -/
theorem endsV {rs : List ARes} {Q : IV → Prop} {s : St} {x : IV} {σ' : Slots} (h : retOf s rs = some (x, σ')) (hq : Q x) : endsIn rs (fun r σ => ∃ x σ', shut r σ = some (x, σ') ∧ Q x) .ret s := by
  unfold retOf at h
  split at h
  · rename_i vs hvs
    exact ⟨trivial, vs, hvs, x, σ', h, hq⟩
  · cases h
theorem endsVn {rs : List ARes} {Q : IV → Prop} {s : St} {x : IV} {σ' : Slots} (h : retOf s rs = some (x, σ')) (hq : Q x) : endsIn rs (fun r σ => ∃ x σ', shut r σ = some (x, σ') ∧ Q x) .normal s := by
  obtain ⟨_, h⟩ := endsV h hq
  exact ⟨trivial, h⟩

theorem GC.mono {P : Program} {f : FuncId} {args : List TV} {σ : Slots} {Q Q' : TV → Slots → Prop} (h : GC P f args σ Q) (hq : ∀ r s, Q r s → Q' r s) : GC P f args σ Q' := by
  intro K w vs h1 h2 h3
  refine (h K w vs h1 h2 h3).mono ?_
  rintro e w' ⟨v, rfl, K', r, σ', hr, rest⟩
  exact ⟨v, rfl, K', r, σ', hq _ _ hr, rest⟩
theorem OC.fc {P : Program} {f : FuncId} {ys zs : List IV} {e sz : Nat} (h : OC P f ys e sz zs []) : FC P f ys (· = .slice zs) :=
  .ofGC (h.mono (by rintro r s ⟨m, rfl, rfl⟩; exact ⟨_, _, by simp only [ownRes, shut, lk, if_true]; rfl, rfl⟩))
theorem OC.fc2 {P : Program} {f : FuncId} {ys zs : List IV} {e sz : Nat} {k : IntKind} {n : Int} (h : OC P f ys e sz zs [.int k n]) : FC P f ys (· = .tup [.slice zs, .int k n]) :=
  .ofGC (h.mono (by rintro r s ⟨m, rfl, rfl⟩; exact ⟨_, _, by simp only [ownRes, shut, shutAll, lk, if_true, List.map_cons, List.map_nil, nrm, nrm0, nrm1]; rfl, rfl⟩))

/-! ### regions that draw -/
def isNilS : Slots → Bool
  | [] => true
  | _ => false
/-- As far as the operations of a region that draws go by themselves. -/
def runD (bd : List Nat) : Nat → List AIns → St → St × Nat × List AIns
  | k, [], s => (s, k, [])
  | k, i :: is, s =>
    match i.guard with
    | none => if bd.contains k then match aop s.ρ s.σ i.op with
        | some (r, σ') => runD bd (k + 1) is ({ s with σ := σ' }.put i.dst r)
        | none => (s, k, i :: is)
      else match aop s.ρ [] i.op with
        | some (r, σ') => if isNilS σ' then runD bd (k + 1) is (s.put i.dst r) else (s, k, i :: is)
        | none => (s, k, i :: is)
    | some (t, want) => match lk s.ρ t with
      | some (.iv (.bool b)) => if b = want then (if bd.contains k then match aop s.ρ s.σ i.op with
            | some (r, σ') => runD bd (k + 1) is ({ s with σ := σ' }.put i.dst r)
            | none => (s, k, i :: is)
          else match aop s.ρ [] i.op with
            | some (r, σ') => if isNilS σ' then runD bd (k + 1) is (s.put i.dst r) else (s, k, i :: is)
            | none => (s, k, i :: is))
        else runD bd (k + 1) is (s.put i.dst .dead)
      | _ => (s, k, i :: is)

theorem isNilS_is {σ : Slots} (h : isNilS σ = true) : σ = [] := by cases σ <;> simp [isNilS] at h ⊢

theorem wprd_runD {P : Program} {bd : List Nat} {K : St → Prop} : ∀ {is : List AIns} {k : Nat} {s : St}, wprd P bd (runD bd k is s).2.1 (runD bd k is s).2.2 K (runD bd k is s).1 → wprd P bd k is K s
  | [], k, s, h => h
  | i :: is, k, s, h => by
    simp only [runD] at h
    split at h
    · rename_i hg
      split at h
      · rename_i hb
        split at h
        · rename_i r σ' hop
          exact ⟨_, by simp only [DStep, hg]; exact .inr ⟨hb, r, σ', .op _ r σ' hop, rfl⟩, wprd_runD h⟩
        · exact h
      · rename_i hb
        have hb : bd.contains k = false := by simpa using hb
        split at h
        · rename_i r σ' hop
          split at h
          · rename_i hn
            have := isNilS_is hn; subst this
            exact ⟨_, by simp only [DStep, hg]; exact .inl ⟨hb, r, .op _ r hop, rfl⟩, wprd_runD h⟩
          · exact h
        · exact h
    · rename_i t want hg
      split at h
      · rename_i b hlk
        split at h
        · rename_i hbw
          split at h
          · rename_i hb
            split at h
            · rename_i r σ' hop
              exact ⟨_, by simp only [DStep, hg]; exact .inr ⟨b, hlk, fun _ => .inr ⟨hb, r, σ', .op _ r σ' hop, rfl⟩, fun hn => absurd hbw hn⟩, wprd_runD h⟩
            · exact h
          · rename_i hb
            have hb : bd.contains k = false := by simpa using hb
            split at h
            · rename_i r σ' hop
              split at h
              · rename_i hn
                have := isNilS_is hn; subst this
                exact ⟨_, by simp only [DStep, hg]; exact .inr ⟨b, hlk, fun _ => .inl ⟨hb, r, .op _ r hop, rfl⟩, fun hn => absurd hbw hn⟩, wprd_runD h⟩
              · exact h
            · exact h
        · rename_i hbw
          exact ⟨s.put i.dst .dead, by simp only [DStep, hg]; exact .inr ⟨b, hlk, fun hb' => absurd hb' hbw, fun _ => by first | rfl | trivial⟩, wprd_runD h⟩
      · exact h

def conDB (bd : List Nat) (k : Nat) (is : List AIns) (s : St) (i : AIns) : Option (TV × Slots) → St × Nat × List AIns
  | some (r, σ') => runD bd (k + 1) is ({ s with σ := σ' }.put i.dst r)
  | none => (s, k, i :: is)
def conDF (bd : List Nat) (k : Nat) (is : List AIns) (s : St) (i : AIns) : Option (TV × Slots) → St × Nat × List AIns
  | some (r, []) => runD bd (k + 1) is (s.put i.dst r)
  | _ => (s, k, i :: is)
def conD (bd : List Nat) (k : Nat) (is : List AIns) (s : St) (i : AIns) : Bool → St × Nat × List AIns
  | true => conDB bd k is s i (aop s.ρ s.σ i.op)
  | false => conDF bd k is s i (aop s.ρ [] i.op)
def conDW (bd : List Nat) (k : Nat) (is : List AIns) (s : St) (i : AIns) : Bool → St × Nat × List AIns
  | true => conD bd k is s i (bd.contains k)
  | false => runD bd (k + 1) is (s.put i.dst .dead)
def conDG (bd : List Nat) (k : Nat) (is : List AIns) (s : St) (i : AIns) (want : Bool) : Option TV → St × Nat × List AIns
  | some (.iv (.bool b)) => conDW bd k is s i (b == want)
  | _ => (s, k, i :: is)
section
variable (bd : List Nat) (k : Nat) (is : List AIns) (s : St) (i : AIns)
theorem conDB_some (r : TV) (σ' : Slots) : conDB bd k is s i (some (r, σ')) = runD bd (k + 1) is ({ s with σ := σ' }.put i.dst r) := rfl
theorem conDB_none : conDB bd k is s i none = (s, k, i :: is) := rfl
theorem conDF_some (r : TV) : conDF bd k is s i (some (r, [])) = runD bd (k + 1) is (s.put i.dst r) := rfl
theorem conDF_none : conDF bd k is s i none = (s, k, i :: is) := rfl
theorem conD_true : conD bd k is s i true = conDB bd k is s i (aop s.ρ s.σ i.op) := rfl
theorem conD_false : conD bd k is s i false = conDF bd k is s i (aop s.ρ [] i.op) := rfl
theorem conDW_true : conDW bd k is s i true = conD bd k is s i (bd.contains k) := rfl
theorem conDW_false : conDW bd k is s i false = runD bd (k + 1) is (s.put i.dst .dead) := rfl
theorem conDG_bool (want b : Bool) : conDG bd k is s i want (some (.iv (.bool b))) = conDW bd k is s i (b == want) := rfl
theorem runD_nil : runD bd k [] s = (s, k, []) := rfl
theorem conD_is : conD bd k is s i (bd.contains k) = if bd.contains k then (match aop s.ρ s.σ i.op with
        | some (r, σ') => runD bd (k + 1) is ({ s with σ := σ' }.put i.dst r)
        | none => (s, k, i :: is))
      else (match aop s.ρ [] i.op with
        | some (r, σ') => if isNilS σ' then runD bd (k + 1) is (s.put i.dst r) else (s, k, i :: is)
        | none => (s, k, i :: is)) := by
  cases h : bd.contains k with
  | true =>
    rw [conD_true, if_pos rfl]
    cases aop s.ρ s.σ i.op with
    | none => rfl
    | some p => rfl
  | false =>
    rw [conD_false, if_neg (by simp)]
    cases aop s.ρ [] i.op with
    | none => rfl
    | some p =>
      obtain ⟨r, σ'⟩ := p
      cases σ' with
      | nil => rfl
      | cons _ _ => rfl
theorem runD_n (d : Option Nat) (op : AOp) : runD bd k (⟨d, none, op⟩ :: is) s = conD bd k is s ⟨d, none, op⟩ (bd.contains k) := by
  rw [conD_is]; simp only [runD]
theorem runD_g (d : Option Nat) (t : Nat) (want : Bool) (op : AOp) : runD bd k (⟨d, some (t, want), op⟩ :: is) s = conDG bd k is s ⟨d, some (t, want), op⟩ want (lk s.ρ t) := by
  simp only [runD]
  split
  · rename_i b hb
    rw [hb, conDG_bool]
    by_cases hbw : b = want
    · subst hbw
      rw [if_pos rfl, beq_self_eq_true, conDW_true, conD_is]
    · have : (b == want) = false := by simpa using hbw
      rw [if_neg hbw, this, conDW_false]
  · rename_i hb
    unfold conDG
    split
    · rename_i b hb'; exact (hb b hb').elim
    · rfl
end

theorem wpc_draw {P : Program} {bd : List Nat} {is : List AIns} {Q : AEx → St → Prop} {s : St} (h : ∀ K : St → Prop, (∀ s, Q .normal s → K s) → wprd P bd (runD bd 0 is s).2.1 (runD bd 0 is s).2.2 K (runD bd 0 is s).1) : wpc P (.draw bd is) Q s :=
  .inl (wprd_runD (h _ fun _ h => h))
theorem wprd_callE {P : Program} {bd : List Nat} {k : Nat} {d : Option Nat} {f : FuncId} {as_ : List AOpd} {is : List AIns} {K : St → Prop} {s : St} {xs : List IV} {r : IV} (hf : FC P f xs (· = r)) (hb : bd.contains k = false)
    (ha : callArgs { s with σ := [] } as_ = some (xs, []))
    (h : wprd P bd (runD bd (k + 1) is (s.put d (.iv r))).2.1 (runD bd (k + 1) is (s.put d (.iv r))).2.2 K (runD bd (k + 1) is (s.put d (.iv r))).1) : wprd P bd k (⟨d, none, .call f as_⟩ :: is) K s := by
  unfold callArgs at ha
  split at ha
  · rename_i vs hvs
    exact ⟨_, .inl ⟨hb, .iv r, .call f as_ vs xs r hvs ha hf, rfl⟩, wprd_runD h⟩
  · cases ha

theorem wprd_callT {P : Program} {bd : List Nat} {k : Nat} {d : Option Nat} {f : FuncId} {t : Nat} {want : Bool} {as_ : List AOpd} {is : List AIns} {K : St → Prop} {s : St} {xs : List IV} {r : IV} (hf : FC P f xs (· = r)) (hg : lk s.ρ t = some (.iv (.bool want))) (hb : bd.contains k = false)
    (ha : callArgs { s with σ := [] } as_ = some (xs, []))
    (h : wprd P bd (runD bd (k + 1) is (s.put d (.iv r))).2.1 (runD bd (k + 1) is (s.put d (.iv r))).2.2 K (runD bd (k + 1) is (s.put d (.iv r))).1) : wprd P bd k (⟨d, some (t, want), .call f as_⟩ :: is) K s := by
  unfold callArgs at ha
  split at ha
  · rename_i vs hvs
    exact ⟨_, .inr ⟨want, hg, fun _ => .inl ⟨hb, .iv r, .call f as_ vs xs r hvs ha hf, rfl⟩, fun h => absurd rfl h⟩, wprd_runD h⟩
  · cases ha
theorem wprd_callB {P : Program} {bd : List Nat} {k : Nat} {d : Option Nat} {f : FuncId} {as_ : List AOpd} {is : List AIns} {K : St → Prop} {s : St} {xs : List IV} {r : IV} {σ' : Slots} (hf : FC P f xs (· = r)) (hb : bd.contains k = true)
    (ha : callArgs s as_ = some (xs, σ'))
    (h : wprd P bd (runD bd (k + 1) is ({ s with σ := σ' }.put d (.iv r))).2.1 (runD bd (k + 1) is ({ s with σ := σ' }.put d (.iv r))).2.2 K (runD bd (k + 1) is ({ s with σ := σ' }.put d (.iv r))).1) : wprd P bd k (⟨d, none, .call f as_⟩ :: is) K s := by
  unfold callArgs at ha
  split at ha
  · rename_i vs hvs
    exact ⟨_, .inr ⟨hb, .iv r, σ', .call f as_ vs xs r σ' hvs ha hf, rfl⟩, wprd_runD h⟩
  · cases ha
theorem wprd_callL {P : Program} {bd : List Nat} {k0 : Nat} {d : Option Nat} {f : FuncId} {a0 : AOpd} {as_ : List AOpd} {is : List AIns} {K : St → Prop} {s : St} {k n e sz : Nat} {xs ys zs : List IV} {σ1 : Slots} (hf : LC P f e sz xs ys (· = zs)) (hb : bd.contains k0 = true)
    (ha : callArgsL s a0 as_ = some (k, n, e, sz, xs, ys, σ1))
    (h : wprd P bd (runD bd (k0 + 1) is ({ s with σ := upd σ1 k (n + 1, .list e sz zs) }.put d (.lst k (n + 1)))).2.1 (runD bd (k0 + 1) is ({ s with σ := upd σ1 k (n + 1, .list e sz zs) }.put d (.lst k (n + 1)))).2.2 K
      (runD bd (k0 + 1) is ({ s with σ := upd σ1 k (n + 1, .list e sz zs) }.put d (.lst k (n + 1)))).1) : wprd P bd k0 (⟨d, none, .call f (a0 :: as_)⟩ :: is) K s := by
  obtain ⟨vs, h0, h1, h2, h3⟩ := callArgsL_is ha
  exact ⟨_, .inr ⟨hb, _, _, .callL f a0 as_ k n e sz xs zs vs ys σ1 h0 h1 h2 h3 hf, rfl⟩, wprd_runD h⟩

theorem wpr_nil {P : Program} {K : St → Prop} {s : St} : wpr P [] K s = K s := rfl
theorem wprd_nil {P : Program} {bd : List Nat} {k : Nat} {K : St → Prop} {s : St} : wprd P bd k [] K s = K s := rfl

/-! ### bytes as a list -/
def encB (b : UInt8) : IV := .int .u8 b.toNat
@[simp] theorem encB_cells (b : UInt8) : (encB b).cells = [encB b] := rfl
@[simp] theorem encB_one (b : UInt8) : (encB b).one = true := rfl
theorem encB_ofNat' (m : Nat) (h : m < 256) : encB (UInt8.ofNat m) = .int .u8 (m : Int) := by
  unfold encB
  rw [UInt8.toNat_ofNat']
  have : m % 2 ^ 8 = m := Nat.mod_eq_of_lt (by omega)
  rw [this]
theorem unB_enc (bs : List UInt8) : (bs.map encB).mapM unB = some bs := by
  induction bs with
  | nil => rfl
  | cons b bs ih =>
    have : unB (encB b) = some b := by simp [unB, encB]
    simp [this, ih]
theorem oneSize_map {α : Type} {f : α → IV} {sz : Nat} (h : ∀ a, (f a).cells.length = sz ∧ ∀ ys, f a ≠ .tup ys) : ∀ l : List α, oneSize sz (l.map f) = true
  | [] => rfl
  | a :: l => by
    have h1 := h a
    simp only [List.map_cons, oneSize, Bool.and_eq_true, beq_iff_eq]
    refine ⟨⟨?_, h1.1⟩, oneSize_map h l⟩
    split
    · rename_i ys e; exact absurd e (h1.2 ys)
    · rfl
theorem oneSize_bytes (bs : List UInt8) : oneSize 1 (bs.map encB) = true := oneSize_map (f := encB) (sz := 1) (fun b => ⟨rfl, fun ys h => by simp [encB] at h⟩) bs

end Go.Proofs.YtdlgenppdgkacaaGreatDoor.Ag
