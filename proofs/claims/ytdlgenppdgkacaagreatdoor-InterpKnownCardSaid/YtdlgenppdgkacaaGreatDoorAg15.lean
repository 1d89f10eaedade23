/- Statements and functions. -/
import Derived.Test.YtdlgenppdgkacaaGreatDoorAgE
import Derived.Test.YtdlgenppdgkacaaGreatDoorAgC
import Derived.Test.YtdlgenppdgkacaaGreatDoorAgC2
import Derived.Test.YtdlgenppdgkacaaGreatDoorAgC3
import Derived.Scope
import Derived.Deep.LoopGhost
import Derived.ControlIn
set_option linter.unusedVariables false
set_option linter.unusedSimpArgs false
namespace Go.Proofs.YtdlgenppdgkacaaGreatDoor.Ag
open Go.RowKit (Below)

/-! ### blocks that are no place's: what a statement that is walked by other laws leaves as it is -/
/-- 'Evo', but for some blocks. -/
structure EvoE (X : Nat → Prop) (K : Kr) (σ : Slots) (w : World) (K' : Kr) (σ' : Slots) (w' : World) : Prop where
  le : K.Le w K' w'
  os : w'.os = w.os
  tape : w'.tape = w.tape
  output : w'.output = w.output
  size : w.heap.size ≤ w'.heap.size
  rest : ∀ b, b < w.heap.size → ¬ Owned K σ b → ¬ X b → w'.heap[b]? = w.heap[b]?
  newI : ∀ b, K'.I b → K.I b ∨ Owned K σ b ∨ w.heap.size ≤ b
  newO : ∀ b, Owned K' σ' b → Owned K σ b ∨ w.heap.size ≤ b
/-- The blocks that are left out, and what is known of them. -/
structure Prm where
  X : Nat → Prop
  Z : Kr → World → Prop
  mono : ∀ (K : Kr) (w : World) (K' : Kr) (w' : World), K.Le w K' w' → (∀ b, X b → w'.heap[b]? = w.heap[b]?) → Z K w → Z K' w'
def Prm.At (p : Prm) (K : Kr) (σ : Slots) (w : World) : Prop := (∀ b, p.X b → Odd K σ w b) ∧ p.Z K w
/-- The mark that a range over a function leaves among the deferred calls. -/
def mkD (D : Nat) : Deferred := { target := .collected D, args := #[] }
def Mk (K : Kr) (σ : Slots) (w : World) (n0 D : Nat) : Prop := n0 ≤ D ∧ Odd K σ w D ∧ w.heap[D]? = some (.deferred (some []))
inductive ACode where
  | skip
  | region (is : List AIns)
  | draw (bd : List Nat) (is : List AIns)
  | seq (a b : ACode)
  | cond (c : AOpd) (a b : ACode)
  | block (id : Nat) (a : ACode)
  | loop (a : ACode)
  | exit (id : Nat)
  | scope (a : ACode)
  | label
  | ret
  | ext (N : Nat) (p : Prm) (c : Code)

/-- How a statement is left. -/
inductive AEx where
  | normal
  | exit (id : Nat)
  | ret
inductive ERel : Exit → AEx → Prop
  | normal : ERel .normal .normal
  | exit (id : Nat) : ERel (.exit id) (.exit id)
  | ret : ERel .ret .ret

/-- Choices: for the regions that make memory, by their numbers. -/
def choice (ch : List (Nat × List Nat)) (id : Nat) : List Nat := (lk ch id).getD []

def trC (P : Program) (N : Nat) (ch : List (Nat × List Nat)) : Code → Option ACode
  | .skip => some .skip
  | .region id ops false => match trAll P N ops (choice ch id) ops.toList with
    | some is => some (.region is)
    | none => none
  | .region id ops true => match trAll P N ops (choice ch id) ops.toList with
    | some is => if P.follows .mixedOrders && drawOk ops is (choice ch (id + 1000000)) (ancs ops) then some (.draw (choice ch (id + 1000000)) is) else none
    | none => none
  | .seq a b => match trC P N ch a, trC P N ch b with
    | some a', some b' => some (.seq a' b')
    | _, _ => none
  | .cond c a b => match trOpd c, trC P N ch a, trC P N ch b with
    | some c', some a', some b' => some (.cond c' a' b')
    | _, _, _ => none
  | .block id a => match trC P N ch a with
    | some a' => some (.block id a')
    | none => none
  | .loop a => match trC P N ch a with
    | some a' => some (.loop a')
    | none => none
  | .exit id => some (.exit id)
  | .scope a => match trC P N ch a with
    | some a' => some (.scope a')
    | none => none
  | .label _ => some .label
  | .ret => some .ret
  | _ => none

def thenC (next : St → Prop) (Q : AEx → St → Prop) : AEx → St → Prop
  | .normal, s => next s
  | e, s => Q e s
def blockC (id : Nat) (Q : AEx → St → Prop) : AEx → St → Prop
  | .exit i, s => if i = id then Q .normal s else Q (.exit i) s
  | e, s => Q e s

/-- A nil slice may be taken for an empty list of the call's own. -/
inductive Adopts : St → St → Prop
  | refl (s : St) : Adopts s s
  | nil (s s' : St) (t k e sz : Nat) (h : lk s.ρ t = some (.iv .nil)) (h' : Adopts { ρ := (t, .lst k (nxt s.σ k)) :: s.ρ, σ := upd s.σ k (nxt s.σ k, .list e sz []) } s') : Adopts s s'
theorem adopts_ok {N : Nat} {s s' : St} (h : Adopts s s') : ∀ {K : Kr} {a : Act} {w : World}, SRel N K s a w → ∃ K', SRel N K' s' a w ∧ Evo K s.σ w K' s'.σ w := by
  induction h with
  | refl s => exact fun hs => ⟨_, hs, Evo.refl _ _ _⟩
  | nil s s' t k e sz h h' ih =>
    intro K a w hs
    have hadd := hs.slots.add (w' := w) k (.list e sz []) (.slice none 0 0) none ⟨rfl, rfl, rfl, Nat.le_refl _, fun _ _ _ => rfl⟩ (fun b hb => by cases hb)
      (fun b hb => by cases hb)
      (fun K' le _ _ => ⟨[], World.ownsRow_nil _ _ _ _, fun x hx => by simp at hx, fun q c u hq => by simp [flat] at hq⟩)
    rw [hs.slots.nxt k] at hadd
    have hA1 : (K.add k (.slice none 0 0)).A k (nxt s.σ k) = .slice none 0 0 := by simp [Kr.add, hs.slots.nxt k]
    have hs1 : SRel N (K.add k (.slice none 0 0)) { ρ := (t, .lst k (nxt s.σ k)) :: s.ρ, σ := upd s.σ k (nxt s.σ k, .list e sz []) } a w := by
      refine ⟨hs.size, ?_, hadd.1⟩
      intro t' v hv
      simp only [lk] at hv
      split at hv
      · rename_i e'; subst e'
        injection hv with hv; subst hv
        obtain ⟨u, hu, hru⟩ := hs.tmps t _ h
        refine ⟨u, hu, ?_⟩
        have : u = .slice none 0 0 := by
          cases hru with
          | iv _ _ hru => cases hru; rfl
        have h9 := TRel.lst (K := K.add k (.slice none 0 0)) (w := w) k (nxt s.σ k) (by simp [Kr.add, hs.slots.nxt k])
        rw [hA1] at h9
        rw [this]; exact h9
      · obtain ⟨u, hu, hru⟩ := hs.tmps t' v hv
        exact ⟨u, hu, hru.mono hadd.2.le⟩
    obtain ⟨K', h1, h2⟩ := ih hs1
    exact ⟨K', h1, hadd.2.trans h2⟩

def SubS (ρ' ρ : List (Nat × TV)) : Prop := ∀ t v, lk ρ' t = some v → lk ρ t = some v
theorem SRel.sub {N : Nat} {K : Kr} {s : St} {a : Act} {w : World} (h : SRel N K s a w) {ρ' : List (Nat × TV)} (hs : SubS ρ' s.ρ) : SRel N K { s with ρ := ρ' } a w :=
  ⟨h.size, fun t v hv => h.tmps t v (hs t v hv), h.slots⟩
def PostX (p : Prm) (N : Nat) (K : Kr) (σ : Slots) (w : World) (df : List Deferred) (Q : AEx → St → Prop) (e : Exit) (a' : Act) (w' : World) : Prop :=
  ∃ K' s' ae, ERel e ae ∧ SRel N K' s' a' w' ∧ EvoE p.X K σ w K' s'.σ w' ∧ p.At K' s'.σ w' ∧ (∃ Ds : List Nat, a'.defers = Ds.map mkD ++ df ∧ Ds.Nodup ∧ ∀ D ∈ Ds, Mk K' s'.σ w' w.heap.size D) ∧ Q ae s'
def wpc (P : Program) : ACode → (AEx → St → Prop) → St → Prop
  | .skip, Q, s => Q .normal s
  | .region is, Q, s => ∃ ρ', SubS ρ' s.ρ ∧ wpr P is (Q .normal) { s with ρ := ρ' }
  | .draw bd is, Q, s => wprd P bd 0 is (Q .normal) s ∨ (∃ (X : List Nat) (S : Nat → St), S 0 = s ∧ (∀ (i : Nat) (x : AIns), is[i]? = some x → DStepX P bd X i x (S i) (S (i + 1))) ∧ Q .normal (S is.length)) ∨
    (∃ (X : List Nat) (Pl : Nat → Nat) (S : Nat → St), S 0 = s ∧ (∀ (i : Nat) (x : AIns), is[i]? = some x → DStepC P X Pl i x (S i) (S (i + 1))) ∧ Q .normal (S is.length)) ∨
    (∃ (X : List Nat) (Pl : Nat → Nat) (S : Nat → St), S 0 = s ∧ (∀ (i : Nat) (x : AIns), is[i]? = some x → DStepM P bd X Pl i x (S i) (S (i + 1))) ∧ Q .normal (S is.length)) ∨
    ∃ (X : List Nat) (Pl : Nat → Nat) (S : Nat → St), S 0 = s ∧ lateR bd is ∧ (∀ (i : Nat) (x : AIns), is[i]? = some x → DStepL P bd X Pl i x (S i) (S (i + 1))) ∧ Q .normal (S is.length)
  | .seq a b, Q, s => wpc P a (thenC (wpc P b Q) Q) s
  | .cond c a b, Q, s => ∃ t, ev s.ρ c = some (.iv (.bool t)) ∧ (t = true → wpc P a Q s) ∧ (t = false → wpc P b Q s)
  | .block id a, Q, s => wpc P a (blockC id Q) s
  | .loop a, Q, s => ∃ (I : Nat → St → Prop) (n : Nat), (∃ s', Adopts s s' ∧ I n s') ∧ ∀ n s, I n s → wpc P a (thenC (fun s' => ∃ n', n' < n ∧ I n' s') Q) s
  | .exit id, Q, s => Q (.exit id) s
  | .scope a, Q, s => wpc P a Q s
  | .label, Q, s => Q .normal s
  | .ret, Q, s => Q .ret s
  | .ext N p c, Q, s => ∀ (n : Nat) (K : Kr) (a : Act) (w : World), SRel N K s a w → p.At K s.σ w → c.wpIn Fence.wide n P (PostX p N K s.σ w a.defers Q) a w

/-- What holds in the model behind a statement. -/
def Post (N : Nat) (K : Kr) (σ : Slots) (w : World) (df : List Deferred) (Q : AEx → St → Prop) (e : Exit) (a' : Act) (w' : World) : Prop :=
  ∃ K' s' ae, ERel e ae ∧ SRel N K' s' a' w' ∧ Evo K σ w K' s'.σ w' ∧ a'.defers = df ∧ Q ae s'

theorem wprd_chain {P : Program} {bd : List Nat} {K : St → Prop} : ∀ {is : List AIns} {k : Nat} {s : St}, wprd P bd k is K s →
    ∃ S : Nat → St, S 0 = s ∧ (∀ (i : Nat) (x : AIns), is[i]? = some x → DStep P (bd.contains (k + i)) x (S i) (S (i + 1))) ∧ K (S is.length)
  | [], k, s, h => ⟨fun _ => s, rfl, fun i x hx => by simp at hx, h⟩
  | i :: is, k, s, h => by
    obtain ⟨s', h1, h2⟩ := h
    obtain ⟨S, e0, h3, h4⟩ := wprd_chain h2
    refine ⟨fun n => match n with | 0 => s | n + 1 => S n, rfl, ?_, h4⟩
    intro j x hx
    cases j with
    | zero => simp at hx; subst hx; simp only [Nat.add_zero]; rw [e0]; exact h1
    | succ j =>
      simp at hx
      have := h3 j x hx
      rw [show k + (j + 1) = k + 1 + j by omega]
      exact this

theorem trAll_len {P : Program} {N : Nat} {ops : Array Oper} : ∀ {l : List Oper} {ch : List Nat} {is : List AIns}, trAll P N ops ch l = some is → is.length = l.length ∧
    ∀ (i : Nat) (o : Oper), l[i]? = some o → ∃ x c, is[i]? = some x ∧ trIns P N ops c o = some x
  | [], ch, is, h => by simp [trAll] at h; subst h; exact ⟨rfl, fun i o ho => by simp at ho⟩
  | o :: l, ch, is, h => by
    simp only [trAll] at h
    split at h
    · rename_i x r hx hr
      injection h with h; subst h
      obtain ⟨h1, h2⟩ := trAll_len hr
      refine ⟨by simp [h1], fun i o' ho => ?_⟩
      cases i with
      | zero => simp at ho; subst ho; exact ⟨x, _, rfl, hx⟩
      | succ i => simp at ho; exact h2 i o' ho
    · cases h

theorem wpc_ok {P : Program} {N : Nat} {ch : List (Nat × List Nat)} : ∀ (c : Code) {ac : ACode} {Q : AEx → St → Prop} {s : St} {K : Kr} {a : Act} {w : World},
    trC P N ch c = some ac → SRel N K s a w → wpc P ac Q s → c.wp P (Post N K s.σ w a.defers Q) a w
  | .skip, ac, Q, s, K, a, w, ht, hs, h => by
    simp [trC] at ht; subst ht
    exact wp_skip ⟨K, s, .normal, .normal, hs, Evo.refl _ _ _, rfl, h⟩
  | .region id ops draw, ac, Q, s, K, a, w, ht, hs, h => by
    cases draw with
    | false =>
      simp only [trC] at ht
      split at ht
      · rename_i is hi
        injection ht with ht; subst ht
        obtain ⟨ρ', hsub, h⟩ := h
        refine wp_region_list (wpr_ok hi (hs.sub hsub) h ?_)
        intro K1 s1 a1 w1 h1 h2 h3 h4
        exact ⟨K1, s1, .normal, .normal, h1, h2, h3, h4⟩
      · cases ht
    | true =>
      simp only [trC] at ht
      split at ht
      · rename_i is hi
        split at ht
        · rename_i hcond
          simp only [Bool.and_eq_true] at hcond
          injection ht with ht; subst ht
          obtain ⟨l1, l2⟩ := trAll_len hi
          have hl : is.length = ops.size := by simpa using l1
          obtain ⟨g1, g2⟩ := hs.slots.grew (Grew.drew w none)
          have hs' : SRel N K s a w.drew := ⟨hs.size, fun t v hv => by
            obtain ⟨u, h3, h4⟩ := hs.tmps t v hv
            exact ⟨u, h3, h4.mono g2.le⟩, g1⟩
          by_cases h3 : ∃ (X : List Nat) (Pl : Nat → Nat) (S : Nat → St), S 0 = s ∧ (∀ (i : Nat) (x : AIns), is[i]? = some x → DStepC P X Pl i x (S i) (S (i + 1))) ∧ Q .normal (S is.length)
          · obtain ⟨X, Pl, S, e0, h1, h2⟩ := h3
            have hch : ChainC P is X Pl S := ⟨h1⟩
            refine wp_region_any hcond.1 (crawn_ok hl (chk_of hl hcond.2) hch (fun i o ho => l2 i o (by simpa using ho)) (K0 := K) (w0 := w) (df := a.defers) ?_ ops.size _ a _ ?_ ?_)
            · intro K1 s1 a1 w1 q1 q2 q3 q4 q5
              rw [hl] at h2
              have q1' : SRel N K1 (S ops.size) a1 w1 := ⟨q1.size, fun t v hv => q1.tmps t v ((q4 t).trans hv), q1.slots.congr fun p => (q5 p).symm⟩
              exact ⟨K1, S ops.size, .normal, .normal, q1', by rw [e0] at q2; exact q2.congr fun p => (q5 p).symm, q3, h2⟩
            · refine ⟨by simp, ?_, rfl, K, s, hs', by rw [e0]; exact g2, ?_, ?_, ?_, ?_⟩
              · intro j o ho hj; simp [Array.getElem?_replicate] at hj
              · intro j y d hy hj; simp [Array.getElem?_replicate] at hj
              · intro t _; rw [e0]
              · intro j p hj; simp [Array.getElem?_replicate] at hj
              · intro p _; rw [e0]
            · refine Nat.le_trans (List.countP_le_length) (by simp)
          by_cases h4 : ∃ (X : List Nat) (Pl : Nat → Nat) (S : Nat → St), S 0 = s ∧ (∀ (i : Nat) (x : AIns), is[i]? = some x → DStepM P (choice ch (id + 1000000)) X Pl i x (S i) (S (i + 1))) ∧ Q .normal (S is.length)
          · obtain ⟨X, Pl, S, e0, h1, h2⟩ := h4
            have hch : ChainM P is (choice ch (id + 1000000)) X Pl S := ⟨h1⟩
            refine wp_region_any hcond.1 (crawnM_ok hl (chk_of hl hcond.2) hch (fun i o ho => l2 i o (by simpa using ho)) (K0 := K) (w0 := w) (df := a.defers) ?_ ops.size _ a _ ?_ ?_)
            · intro K1 s1 a1 w1 q1 q2 q3 q4 q5
              rw [hl] at h2
              have q1' : SRel N K1 (S ops.size) a1 w1 := ⟨q1.size, fun t v hv => q1.tmps t v ((q4 t).trans hv), q1.slots.congr fun p => (q5 p).symm⟩
              exact ⟨K1, S ops.size, .normal, .normal, q1', by rw [e0] at q2; exact q2.congr fun p => (q5 p).symm, q3, h2⟩
            · refine ⟨by simp, ?_, rfl, K, s, 0, hs', by rw [e0]; exact g2, ?_, ?_, .inl rfl, ?_, ?_, ?_⟩
              · intro j o ho hj; simp [Array.getElem?_replicate] at hj
              · intro j y d hy hj; simp [Array.getElem?_replicate] at hj
              · intro t _; rw [e0]
              · intro j _ hj; simp [Array.getElem?_replicate] at hj
              · intro j p _ hj; simp [Array.getElem?_replicate] at hj
              · intro p _; rw [e0]
            · refine Nat.le_trans (List.countP_le_length) (by simp)
          by_cases h5 : ∃ (X : List Nat) (Pl : Nat → Nat) (S : Nat → St), S 0 = s ∧ lateR (choice ch (id + 1000000)) is ∧ (∀ (i : Nat) (x : AIns), is[i]? = some x → DStepL P (choice ch (id + 1000000)) X Pl i x (S i) (S (i + 1))) ∧ Q .normal (S is.length)
          · obtain ⟨X, Pl, S, e0, hlate, h1, h2⟩ := h5
            have hch : ChainL P is (choice ch (id + 1000000)) X Pl S := ⟨h1, hlate⟩
            refine wp_region_any hcond.1 (crawnL_ok hl (chk_of hl hcond.2) hch (fun i o ho => l2 i o (by simpa using ho)) (K0 := K) (w0 := w) (df := a.defers) ?_ ops.size _ a _ ?_ ?_)
            · intro K1 s1 a1 w1 q1 q2 q3 q4 q5
              rw [hl] at h2
              have q1' : SRel N K1 (S ops.size) a1 w1 := ⟨q1.size, fun t v hv => q1.tmps t v ((q4 t).trans hv), q1.slots.congr fun p => (q5 p).symm⟩
              exact ⟨K1, S ops.size, .normal, .normal, q1', by rw [e0] at q2; exact q2.congr fun p => (q5 p).symm, q3, h2⟩
            · refine ⟨by simp, ?_, rfl, K, s, 0, fun _ => undef, fun _ => 0, .inl rfl, ?_, hs', by rw [e0]; exact g2, ?_, ?_, fun p => by rw [e0], ?_, ?_⟩
              · intro j o ho hj; simp [Array.getElem?_replicate] at hj
              · intro j _ hj; simp [Array.getElem?_replicate] at hj
              · intro j y d hy hj; simp [Array.getElem?_replicate] at hj
              · intro t _; rw [e0]
              · intro j y d hy hj; simp [Array.getElem?_replicate] at hj
              · intro j j' _ hj; simp [Array.getElem?_replicate] at hj
            · refine Nat.le_trans (List.countP_le_length) (by simp)
          have h : ∃ (X : List Nat) (S : Nat → St), S 0 = s ∧ (∀ (i : Nat) (x : AIns), is[i]? = some x → DStepX P (choice ch (id + 1000000)) X i x (S i) (S (i + 1))) ∧ Q .normal (S is.length) := by
            rcases h with h | h | h | h | h
            · obtain ⟨S, e0, h1, h2⟩ := wprd_chain h
              exact ⟨[], S, e0, fun i x hx => DStep.toX (by simpa using h1 i x hx), h2⟩
            · exact h
            · exact absurd h h3
            · exact absurd h h4
            · exact absurd h h5
          obtain ⟨X, S, e0, h1, h2⟩ := h
          have hch : Chain P is (choice ch (id + 1000000)) X S := ⟨h1⟩
          refine wp_region_any hcond.1 (drawn_ok hl (chk_of hl hcond.2) hch (fun i o ho => l2 i o (by simpa using ho)) (K0 := K) (w0 := w) (df := a.defers) ?_ ops.size _ a _ ?_ ?_)
          · intro K1 s1 a1 w1 q1 q2 q3 q4 q5
            rw [hl] at h2
            have q1' : SRel N K1 (S ops.size) a1 w1 := ⟨q1.size, fun t v hv => q1.tmps t v ((q4 t).trans hv), q5 ▸ q1.slots⟩
            exact ⟨K1, S ops.size, .normal, .normal, q1', by rw [e0] at q2; rw [q5] at q2; exact q2, q3, h2⟩
          · refine ⟨by simp, ?_, rfl, K, s, hs', by rw [e0]; exact g2, ?_, ?_, 0, Nat.zero_le _, ?_, by rw [e0]⟩
            · intro j o ho hj; simp [Array.getElem?_replicate] at hj
            · intro j y d hy hj; simp [Array.getElem?_replicate] at hj
            · intro t _; rw [e0]
            · intro j hj hb; simp [Array.getElem?_replicate]
          · refine Nat.le_trans (List.countP_le_length) (by simp)
        · cases ht
      · cases ht
  | .seq x y, ac, Q, s, K, a, w, ht, hs, h => by
    simp only [trC] at ht
    split at ht
    · rename_i x' y' hx hy
      injection ht with ht; subst ht
      refine wp_seq (wp_mono (wpc_ok x hx hs h) ?_)
      rintro e a1 w1 ⟨K1, s1, ae, he, h1, h2, h3, h4⟩
      cases he with
      | normal =>
        refine wp_mono (wpc_ok y hy h1 h4) ?_
        rintro e a2 w2 ⟨K2, s2, ae, he, g1, g2, g3, g4⟩
        exact ⟨K2, s2, ae, he, g1, h2.trans g2, g3.trans h3, g4⟩
      | exit id => exact ⟨K1, s1, _, .exit id, h1, h2, h3, h4⟩
      | ret => exact ⟨K1, s1, _, .ret, h1, h2, h3, h4⟩
    · cases ht
  | .cond c x y, ac, Q, s, K, a, w, ht, hs, h => by
    simp only [trC] at ht
    split at ht
    · rename_i c' x' y' hc hx hy
      injection ht with ht; subst ht
      obtain ⟨t, h1, h2, h3⟩ := h
      have hr := ev_rel hs hc h1
      have hb : a.eval c = .bool t := by
        cases hr with
        | iv _ _ hr => generalize a.eval c = cv at hr; cases hr; rfl
      cases t with
      | true => exact wp_cond_true hb (wpc_ok x hx hs (h2 rfl))
      | false => exact wp_cond_false hb (wpc_ok y hy hs (h3 rfl))
    · cases ht
  | .block id x, ac, Q, s, K, a, w, ht, hs, h => by
    simp only [trC] at ht
    split at ht
    · rename_i x' hx
      injection ht with ht; subst ht
      refine wp_block (wp_mono (wpc_ok x hx hs h) ?_)
      rintro e a1 w1 ⟨K1, s1, ae, he, h1, h2, h3, h4⟩
      cases he with
      | normal => exact ⟨K1, s1, _, .normal, h1, h2, h3, h4⟩
      | exit i =>
        simp only [Exit.inBlock]
        simp only [blockC] at h4
        split
        · rename_i e; rw [if_pos e] at h4; exact ⟨K1, s1, _, .normal, h1, h2, h3, h4⟩
        · rename_i e; rw [if_neg e] at h4; exact ⟨K1, s1, _, .exit i, h1, h2, h3, h4⟩
      | ret => exact ⟨K1, s1, _, .ret, h1, h2, h3, h4⟩
    · cases ht
  | .loop x, ac, Q, s, K, a, w, ht, hs, h => by
    simp only [trC] at ht
    split at ht
    · rename_i x' hx
      injection ht with ht; subst ht
      obtain ⟨I, n, ⟨s0, had, h0⟩, hround⟩ := h
      obtain ⟨K0, hs0, hev0⟩ := adopts_ok had hs
      refine wp_loop_ghost (fun n a1 w1 => ∃ K1 s1, SRel N K1 s1 a1 w1 ∧ Evo K s.σ w K1 s1.σ w1 ∧ a1.defers = a.defers ∧ I n s1) n ⟨K0, s0, hs0, hev0, rfl, h0⟩ ?_
      rintro n a1 w1 ⟨K1, s1, h1, h2, h3, h4⟩
      refine wp_mono (wpc_ok x hx h1 (hround n s1 h4)) ?_
      rintro e a2 w2 ⟨K2, s2, ae, he, g1, g2, g3, g4⟩
      cases he with
      | normal =>
        obtain ⟨n', hn', hi⟩ := g4
        exact ⟨n', hn', K2, s2, g1, h2.trans g2, g3.trans h3, hi⟩
      | exit id => exact ⟨K2, s2, _, .exit id, g1, h2.trans g2, g3.trans h3, g4⟩
      | ret => exact ⟨K2, s2, _, .ret, g1, h2.trans g2, g3.trans h3, g4⟩
    · cases ht
  | .rangeFunc f ps as_ x, ac, Q, s, K, a, w, ht, hs, h => by simp [trC] at ht
  | .exit id, ac, Q, s, K, a, w, ht, hs, h => by
    simp [trC] at ht; subst ht
    exact wp_exit ⟨K, s, _, .exit id, hs, Evo.refl _ _ _, rfl, h⟩
  | .scope x, ac, Q, s, K, a, w, ht, hs, h => by
    simp only [trC] at ht
    split at ht
    · rename_i x' hx
      injection ht with ht; subst ht
      refine wp_scope_straight (wp_mono (wpc_ok x hx hs h) ?_)
      rintro e a1 w1 ⟨K1, s1, ae, he, h1, h2, h3, h4⟩
      cases he with
      | normal => exact ⟨K1, s1, _, .normal, h1, h2, h3, h4⟩
      | exit i => exact ⟨K1, s1, _, .exit i, h1, h2, h3, h4⟩
      | ret => exact ⟨K1, s1, _, .ret, h1, h2, h3, h4⟩
    · cases ht
  | .label l, ac, Q, s, K, a, w, ht, hs, h => by
    simp [trC] at ht; subst ht
    exact wp_label ⟨K, s, _, .normal, hs, Evo.refl _ _ _, rfl, h⟩
  | .goto l, ac, Q, s, K, a, w, ht, hs, h => by simp [trC] at ht
  | .ret, ac, Q, s, K, a, w, ht, hs, h => by
    simp [trC] at ht; subst ht
    exact wp_ret ⟨K, s, _, .ret, hs, Evo.refl _ _ _, rfl, h⟩
  | .refuse why, ac, Q, s, K, a, w, ht, hs, h => by simp [trC] at ht

/-! ### functions -/
inductive ARes where
  | tmp (t : Nat)
  | cell (t sz : Nat) (ag : Bool)
def trRes (P : Program) : List ResultVar → Option (List ARes)
  | [] => some []
  | .tmp t :: l => match trRes P l with
    | some r => some (.tmp t :: r)
    | none => none
  | .cell a t :: l => match P.info? t, agOf P t, trRes P l with
    | some i, some ag, some r => some (.cell a i.size ag :: r)
    | _, _, _ => none
def retVals (s : St) : List ARes → Option (List TV)
  | [] => some []
  | .tmp t :: l => match lk s.ρ t, retVals s l with
    | some v, some vs => some (v :: vs)
    | _, _ => none
  | .cell t sz ag :: l => match lk s.ρ t, retVals s l with
    | some p, some vs => match loadOf s.σ sz ag p with
      | some v => some (v :: vs)
      | none => none
    | _, _ => none
def oneOrTup : List TV → TV
  | [v] => v
  | vs => .tup vs
/-- What a function returns. -/
def retOf (s : St) (rs : List ARes) : Option (IV × Slots) :=
  match retVals s rs with
  | some vs => shut (oneOrTup vs) s.σ
  | none => none

theorem loadOf_run {P : Program} {N : Nat} {K : Kr} {s : St} {a : Act} {w : World} (hs : SRel N K s a w) {t : TypeId} {sz : Nat} {ag : Bool} {p r : TV} {u : Value} (hsz : sizeIs P t sz) (ha : aggIs P t ag) (hp : TRel K w p u) (h : loadOf s.σ sz ag p = some r) :
    ∃ v, (do loadVar t (← asAddr u) : Sem Value).run P w = .ok v w ∧ TRel K w r v := by
  -- as a load of a slot that holds it
  have hs1 : SRel 1 K { s with ρ := [(0, p)] } { tmps := #[u], defers := [] } w := by
    refine ⟨rfl, ?_, hs.slots⟩
    intro t v hv
    simp only [lk] at hv
    split at hv
    · rename_i e; subst e; injection hv with hv; subst hv; exact ⟨u, rfl, hp⟩
    · cases hv
  obtain ⟨v, h1, h2⟩ := load_rel (P := P) (N := 1) (s := { s with ρ := [(0, p)] }) (d := none) (ty := 0) (ps := "") (af := #[]) (g := none) hsz ha (x := .tmp 0) rfl (by simp [ev, lk]) h K { tmps := #[u], defers := [] } w hs1
  have hpt : ∃ ad, u = .pointer (some ad) := by
    unfold loadOf at h
    split at h
    · cases hp with
      | iv _ _ hp => cases hp; exact ⟨_, rfl⟩
    · cases hp; exact ⟨_, rfl⟩
    · cases hp; exact ⟨_, rfl⟩
    · cases h
  obtain ⟨ad, rfl⟩ := hpt
  refine ⟨v, ?_, h2⟩
  have e0 : ({ tmps := #[Value.pointer (some ad)], defers := [] } : Act).eval (.tmp 0) = .pointer (some ad) := rfl
  simp only [execOp, e0, Instr.loadAt, Instr.sureAddr, Sem.run_bind, Sem.run_pure, Result.andThen_ok] at h1
  simp only [asAddr, Sem.run_bind, Sem.run_pure, Result.andThen_ok]
  cases hr : (loadVar t ad).run P w with
  | ok v' w' =>
    rw [hr] at h1
    simp only [Result.andThen_ok, Result.ok.injEq, Next.value.injEq] at h1
    obtain ⟨rfl, rfl⟩ := h1
    rfl
  | halt x w' => rw [hr] at h1; cases h1

def resSem (tmps : Array Value) : ResultVar → Sem Value
  | .tmp t => pure (tmps.getD t undef)
  | .cell q t => do loadVar t (← asAddr (tmps.getD q undef))
theorem results_eq (fn : Func) (tmps : Array Value) : results fn tmps = (do let vs ← fn.results.mapM (resSem tmps); pure (if h : vs.size = 1 then vs[0] else .tuple vs)) := by
  unfold results
  congr 2

theorem retVals_rel {P : Program} {N : Nat} {K : Kr} {s : St} {a : Act} {w : World} (hs : SRel N K s a w) : ∀ {l : List ResultVar} {rs : List ARes} {vs : List TV}, trRes P l = some rs → retVals s rs = some vs →
    ∃ us : List Value, (l.mapM (resSem a.tmps)).run P w = .ok us w ∧ us.length = vs.length ∧
      ∀ (q : Nat) (c : TV) (v : Value), vs[q]? = some c → us[q]? = some v → TRel K w c v
  | [], rs, vs, ht, h => by
    simp [trRes] at ht; subst ht
    simp [retVals] at h; subst h
    exact ⟨[], by simp, rfl, fun q c v hc => by simp at hc⟩
  | .tmp t :: l, rs, vs, ht, h => by
    simp only [trRes] at ht
    split at ht
    · rename_i r hr
      injection ht with ht; subst ht
      simp only [retVals] at h
      split at h
      · rename_i v vs' hv hvs
        injection h with h; subst h
        obtain ⟨us, h1, h2, h3⟩ := retVals_rel hs hr hvs
        obtain ⟨u, hu, hur⟩ := hs.tmps t v hv
        refine ⟨u :: us, ?_, by simp [h2], ?_⟩
        · have : a.tmps.getD t undef = u := by simp [Array.getD_eq_getD_getElem?, hu]
          simp only [List.mapM_cons, resSem, Sem.run_bind, Sem.run_pure, Result.andThen_ok, h1, this]
        · intro q c v' hc hv'
          cases q with
          | zero => simp at hc hv'; subst hc; subst hv'; exact hur
          | succ q => simp at hc hv'; exact h3 q c v' hc hv'
      · cases h
    · cases ht
  | .cell q0 t :: l, rs, vs, ht, h => by
    simp only [trRes] at ht
    split at ht
    · rename_i i ag r hi hag hr
      injection ht with ht; subst ht
      simp only [retVals] at h
      split at h
      · rename_i p vs' hp hvs
        split at h
        · rename_i v hv
          injection h with h; subst h
          obtain ⟨us, h1, h2, h3⟩ := retVals_rel hs hr hvs
          obtain ⟨u, hu, hur⟩ := hs.tmps q0 p hp
          obtain ⟨v', e1, e2⟩ := loadOf_run hs ⟨i, hi, rfl⟩ (agOf_is hag) hur hv
          refine ⟨v' :: us, ?_, by simp [h2], ?_⟩
          · have : a.tmps.getD q0 undef = u := by simp [Array.getD_eq_getD_getElem?, hu]
            simp only [List.mapM_cons, resSem, Sem.run_bind, this]
            simp only [Sem.run_bind] at e1
            rw [e1]
            simp only [Result.andThen_ok, h1, Sem.run_pure]
          · intro q c v1 hc hv'
            cases q with
            | zero => simp at hc hv'; subst hc; subst hv'; exact e2
            | succ q => simp at hc hv'; exact h3 q c v1 hc hv'
        · cases h
      · cases h
    · cases ht

theorem results_rel {P : Program} {N : Nat} {K : Kr} {s : St} {a : Act} {w : World} (hs : SRel N K s a w) {fn : Func} {rs : List ARes} {vs : List TV} (ht : trRes P fn.results.toList = some rs) (h : retVals s rs = some vs) :
    ∃ v, (results fn a.tmps).run P w = .ok v w ∧ TRel K w (oneOrTup vs) v := by
  obtain ⟨us, h1, h2, h3⟩ := retVals_rel hs ht h
  have hm : (fn.results.mapM (resSem a.tmps)).run P w = .ok us.toArray w := by
    rw [Array.mapM_eq_mapM_toList, Sem.run_map, h1]
    rfl
  rw [results_eq, Sem.run_bind, hm]
  simp only [Result.andThen_ok, Sem.run_pure]
  refine ⟨_, rfl, ?_⟩
  match vs, us, h2, h3 with
  | [], [], _, h3 => exact .tup [] #[] rfl (fun q c v hc => by simp at hc)
  | [v], [u], _, h3 => simpa [oneOrTup] using h3 0 v u rfl rfl
  | v :: v2 :: vs, u :: u2 :: us, h2, h3 =>
    have : ¬ (u :: u2 :: us).toArray.size = 1 := by simp
    rw [dif_neg this]
    exact .tup _ _ (by simp at h2 ⊢; exact h2) (fun q c v hc hv => h3 q c v hc (by simpa using hv))
  | [], _ :: _, h2, _ => simp at h2
  | [_], [], h2, _ => simp at h2
  | [_], _ :: _ :: _, h2, _ => simp at h2
  | _ :: _ :: _, [], h2, _ => simp at h2
  | _ :: _ :: _, [_], h2, _ => simp at h2

/-- The slots at a function's start. -/
def args0 (xs : List TV) : Nat → List (Nat × TV)
  | n => (xs.zipIdx n).map fun x => (x.2, x.1)
theorem lk_args0 : ∀ {xs : List TV} {n t : Nat} {v : TV}, lk (args0 xs n) t = some v → n ≤ t ∧ xs[t - n]? = some v
  | [], n, t, v, h => by simp [args0, lk] at h
  | x :: xs, n, t, v, h => by
    simp only [args0, List.zipIdx_cons, List.map_cons, lk] at h
    split at h
    · rename_i e; subst e; injection h with h; subst h; simp
    · rename_i e
      obtain ⟨h1, h2⟩ := lk_args0 (xs := xs) (n := n + 1) h
      refine ⟨by omega, ?_⟩
      have : t - n = (t - (n + 1)) + 1 := by omega
      rw [this, List.getElem?_cons_succ]; exact h2

/-- A function of ours: what is asked of it. -/
structure AFn where
  code : ACode
  res : List ARes
def trFn (P : Program) (ch : List (Nat × List Nat)) (fn : Func) : Option AFn :=
  match fn.body with
  | some c => match trC P fn.ntmps ch c, trRes P fn.results.toList with
    | some ac, some rs => some ⟨ac, rs⟩
    | _, _ => none
  | none => none

/-- How a body ends. -/
def endsIn (rs : List ARes) (Q : TV → Slots → Prop) (e : AEx) (s : St) : Prop :=
  (match e with | .ret => True | .normal => True | _ => False) ∧ ∃ vs, retVals s rs = some vs ∧ Q (oneOrTup vs) s.σ

theorem GC.of {P : Program} {f : FuncId} {fn : Func} {ch : List (Nat × List Nat)} {af : AFn} {args : List TV} {σ : Slots} {Q : TV → Slots → Prop} (hf : P.funcs[f]? = some fn) (ht : trFn P ch fn = some af) (hn : args.length ≤ fn.ntmps)
    (h : wpc P af.code (endsIn af.res Q) { ρ := args0 args 0, σ := σ }) : GC P f args σ Q := by
  intro K w vs hs hsz hr
  unfold trFn at ht
  split at ht
  · rename_i c hc
    split at ht
    · rename_i ac rs h1 h2
      injection ht with ht; subst ht
      refine calls_of_wp hf hc ?_
      have hs0 : SRel fn.ntmps K { ρ := args0 args 0, σ := σ } { tmps := vs ++ Array.replicate (fn.ntmps - vs.size) undef, defers := [] } w := by
        refine ⟨by simp; omega, ?_, hs⟩
        intro t v hv
        obtain ⟨h3, h4⟩ := lk_args0 hv
        have hlt : t < vs.size := by have := (List.getElem?_eq_some_iff.1 h4).1; omega
        refine ⟨vs[t], by rw [Array.getElem?_append_left hlt]; simp [hlt], hr t v vs[t] (by simpa using h4) (by simp [hlt])⟩
      refine wp_mono (wpc_ok c h1 hs0 h) ?_
      rintro e a1 w1 ⟨K1, s1, ae, he, g1, g2, g3, g4⟩
      obtain ⟨hx, us, hus, hq⟩ := g4
      obtain ⟨v, hv, hvr⟩ := results_rel g1 h2 hus
      cases he with
      | normal => exact ⟨g3, v, hv, v, rfl, K1, _, s1.σ, hq, hvr, g1.slots, g2⟩
      | exit id => exact hx.elim
      | ret => exact ⟨g3, v, hv, v, rfl, K1, _, s1.σ, hq, hvr, g1.slots, g2⟩
    · cases ht
  · cases ht

/-- A contract over values, out of the general one. -/
theorem FC.ofGC {P : Program} {f : FuncId} {args : List IV} {Q : IV → Prop} (h : GC P f (args.map .iv) [] fun r σ => ∃ x σ', shut r σ = some (x, σ') ∧ Q x) : FC P f args Q := by
  intro I w vs hI hsz hr
  have hs0 : SlotsRel { I := I, A := fun _ _ => undef, V := fun _ => 0 } [] w :=
    ⟨fun k n it hl => by simp [lk] at hl, fun _ _ => rfl, fun k k' n n' it it' b hl => by simp [lk] at hl, fun b ⟨k, n, it, hl, _⟩ => by simp [lk] at hl, hI⟩
  refine (h _ w vs hs0 (by simpa using hsz) (fun q c v hc hv => by
    simp only [List.getElem?_map, Option.map_eq_some_iff] at hc
    obtain ⟨x, hx, rfl⟩ := hc
    exact .iv _ _ (hr q x v hx hv))).mono ?_
  rintro e w' ⟨v, rfl, K', r, σ', ⟨x, σ'', hsh, hq⟩, h1, h2, h3⟩
  obtain ⟨K2, e1, e2, e3⟩ := shut_ok r h2 h1 hsh
  have hno : ∀ b, ¬ Owned { I := I, A := fun _ _ => undef, V := fun _ => 0 } [] b := fun b ⟨k, n, it, hl, _⟩ => by simp [lk] at hl
  have ev := h3.trans e2
  refine ⟨v, rfl, K2.I, x, hq, e3, ⟨ev.os, ev.tape, ev.output, ev.size, fun b hb => ev.rest b hb (hno b)⟩, ev.le.1.sub, ?_, e1.old⟩
  intro b hb
  rcases ev.newI b hb with h4 | h4 | h4
  · exact .inl h4
  · exact absurd h4 (hno b)
  · exact .inr h4

theorem FC.of {P : Program} {f : FuncId} {fn : Func} {ch : List (Nat × List Nat)} {af : AFn} {args : List IV} {Q : IV → Prop} (hf : P.funcs[f]? = some fn) (ht : trFn P ch fn = some af) (hn : args.length ≤ fn.ntmps)
    (h : wpc P af.code (endsIn af.res fun r σ => ∃ x σ', shut r σ = some (x, σ') ∧ Q x) { ρ := args0 (args.map .iv) 0, σ := [] }) : FC P f args Q :=
  .ofGC (.of hf ht (by simpa using hn) h)

end Go.Proofs.YtdlgenppdgkacaaGreatDoor.Ag
