/- How a walk goes: regions as far as they go, calls by their contracts, conditions, loops. -/
import Derived.Test.YtmdkcapbahjipaaDoorAg15
set_option linter.unusedVariables false
set_option linter.unusedSimpArgs false
namespace Go.Proofs.YtmdkcapbahjipaaDoor.Ag
open Go.RowKit (Below)

theorem wpc_mono {P : Program} : ∀ (c : ACode) (Q1 Q2 : AEx → St → Prop) (s : St), (∀ e s, Q1 e s → Q2 e s) → wpc P c Q1 s → wpc P c Q2 s := by
  intro c
  induction c with
  | skip => intro Q1 Q2 s hq h; exact hq _ _ h
  | region is =>
    intro Q1 Q2 s hq h
    have mono : ∀ (is : List AIns) (K1 K2 : St → Prop) (s : St), (∀ s, K1 s → K2 s) → wpr P is K1 s → wpr P is K2 s := by
      intro is
      induction is with
      | nil => intro K1 K2 s hk h; exact hk s h
      | cons i is ih =>
        intro K1 K2 s hk h
        simp only [wpr] at h ⊢
        split
        · rename_i hg
          rw [hg] at h
          obtain ⟨R, h1, h2⟩ := h
          exact ⟨R, h1, fun r σ' hr => ih _ _ _ hk (h2 r σ' hr)⟩
        · rename_i t want hg
          rw [hg] at h
          obtain ⟨v, x, h1, hx, h23⟩ := h
          rcases h23 with ⟨h2, h3⟩ | ⟨r, h2, h3⟩
          · refine ⟨v, x, h1, hx, .inl ⟨fun hb => ?_, fun hb => ih _ _ _ hk (h3 hb)⟩⟩
            obtain ⟨R, h4, h5⟩ := h2 hb
            exact ⟨R, h4, fun r σ' hr => ih _ _ _ hk (h5 r σ' hr)⟩
          · exact ⟨v, x, h1, hx, .inr ⟨r, h2, ih _ _ _ hk h3⟩⟩
    obtain ⟨ρ', hsub, h⟩ := h
    exact ⟨ρ', hsub, mono is _ _ _ (fun s h => hq _ _ h) h⟩
  | draw bd is =>
    intro Q1 Q2 s hq h
    have mono : ∀ (is : List AIns) (k : Nat) (K1 K2 : St → Prop) (s : St), (∀ s, K1 s → K2 s) → wprd P bd k is K1 s → wprd P bd k is K2 s := by
      intro is
      induction is with
      | nil => intro k K1 K2 s hk h; exact hk s h
      | cons i is ih =>
        intro k K1 K2 s hk h
        obtain ⟨s', h1, h2⟩ := h
        exact ⟨s', h1, ih _ _ _ _ hk h2⟩
    rcases h with h | ⟨X, S, h1, h2, h3⟩ | ⟨X, Pl, S, h1, h2, h3⟩
    · exact .inl (mono is 0 _ _ s (fun s h => hq _ _ h) h)
    · exact .inr (.inl ⟨X, S, h1, h2, hq _ _ h3⟩)
    · exact .inr (.inr ⟨X, Pl, S, h1, h2, hq _ _ h3⟩)
  | seq a b iha ihb =>
    intro Q1 Q2 s hq h
    refine iha _ _ s ?_ h
    intro e s h
    cases e with
    | normal => exact ihb _ _ s hq h
    | exit id => exact hq _ _ h
    | ret => exact hq _ _ h
  | cond c a b iha ihb =>
    intro Q1 Q2 s hq h
    obtain ⟨t, h1, h2, h3⟩ := h
    exact ⟨t, h1, fun ht => iha _ _ s hq (h2 ht), fun ht => ihb _ _ s hq (h3 ht)⟩
  | block id a iha =>
    intro Q1 Q2 s hq h
    refine iha _ _ s ?_ h
    intro e s h
    cases e with
    | normal => exact hq _ _ h
    | exit i =>
      simp only [blockC] at h ⊢
      split
      · rename_i e; rw [if_pos e] at h; exact hq _ _ h
      · rename_i e; rw [if_neg e] at h; exact hq _ _ h
    | ret => exact hq _ _ h
  | loop a iha =>
    intro Q1 Q2 s hq h
    obtain ⟨I, n, h0, hr⟩ := h
    refine ⟨I, n, h0, fun n s hi => iha _ _ s ?_ (hr n s hi)⟩
    intro e s h
    cases e with
    | normal => exact h
    | exit id => exact hq _ _ h
    | ret => exact hq _ _ h
  | exit id => intro Q1 Q2 s hq h; exact hq _ _ h
  | scope a iha => intro Q1 Q2 s hq h; exact iha _ _ s hq h
  | label => intro Q1 Q2 s hq h; exact hq _ _ h
  | ret => intro Q1 Q2 s hq h; exact hq _ _ h

def callArgs (s : St) (as_ : List AOpd) : Option (List IV × Slots) :=
  match evAll s.ρ as_ with
  | some vs => shutAll vs s.σ
  | none => none
def callArgsL (s : St) (a0 : AOpd) (as_ : List AOpd) : Option (Nat × Nat × Nat × Nat × List IV × List IV × Slots) :=
  match ev s.ρ a0 with
  | some (.lst k n) => match evAll s.ρ as_ with
    | some vs => match shutAll vs s.σ with
      | some (ys, σ1) => match lk σ1 k with
        | some (n', .list e sz xs) => if n' = n then some (k, n, e, sz, xs, ys, σ1) else none
        | _ => none
      | none => none
    | none => none
  | _ => none
theorem callArgsL_is {s : St} {a0 : AOpd} {as_ : List AOpd} {k n e sz : Nat} {xs ys : List IV} {σ1 : Slots} (h : callArgsL s a0 as_ = some (k, n, e, sz, xs, ys, σ1)) :
    ∃ vs, ev s.ρ a0 = some (.lst k n) ∧ evAll s.ρ as_ = some vs ∧ shutAll vs s.σ = some (ys, σ1) ∧ lk σ1 k = some (n, .list e sz xs) := by
  unfold callArgsL at h
  repeat' split at h
  all_goals first
    | (cases h; done)
    | skip
  injection h with h
  cases h
  subst_vars
  exact ⟨_, by assumption, by assumption, by assumption, by assumption⟩
theorem OC.of {P : Program} {f : FuncId} {fn : Func} {ch : List (Nat × List Nat)} {af : AFn} {ys zs rets : List IV} {e sz : Nat} (hf : P.funcs[f]? = some fn) (ht : trFn P ch fn = some af) (hn : ys.length ≤ fn.ntmps)
    (h : wpc P af.code (endsIn af.res fun r σ => ∃ m, r = ownRes 0 m rets ∧ σ = [(0, m, .list e sz zs)]) { ρ := args0 (ys.map .iv) 0, σ := [] }) : OC P f ys e sz zs rets :=
  GC.of hf ht (by simpa using hn) h
theorem endsIn_ret {rs : List ARes} {Q : TV → Slots → Prop} {s : St} {vs : List TV} (h : retVals s rs = some vs) (hq : Q (oneOrTup vs) s.σ) : endsIn rs Q .ret s := ⟨trivial, vs, h, hq⟩
theorem endsIn_normal {rs : List ARes} {Q : TV → Slots → Prop} {s : St} {vs : List TV} (h : retVals s rs = some vs) (hq : Q (oneOrTup vs) s.σ) : endsIn rs Q .normal s := ⟨trivial, vs, h, hq⟩
theorem endsV {rs : List ARes} {Q : IV → Prop} {s : St} {x : IV} {σ' : Slots} (h : retOf s rs = some (x, σ')) (hq : Q x) : endsIn rs (fun r σ => ∃ x σ', shut r σ = some (x, σ') ∧ Q x) .ret s := by
  unfold retOf at h
  split at h
  · rename_i vs hvs
    exact ⟨trivial, vs, hvs, x, σ', h, hq⟩
  · cases h
theorem endsVn {rs : List ARes} {Q : IV → Prop} {s : St} {x : IV} {σ' : Slots} (h : retOf s rs = some (x, σ')) (hq : Q x) : endsIn rs (fun r σ => ∃ x σ', shut r σ = some (x, σ') ∧ Q x) .normal s := by
  obtain ⟨_, h⟩ := endsV h hq
  exact ⟨trivial, h⟩

theorem GC.mono {P : Program} {f : FuncId} {args : List TV} {σ : Slots} {Q Q' : TV → Slots → Prop} (h : GC P f args σ Q) (hq : ∀ r s, Q r s → Q' r s) : GC P f args σ Q' := by
  intro K w vs h1 h2 h3
  refine (h K w vs h1 h2 h3).mono ?_
  rintro e w' ⟨v, rfl, K', r, σ', hr, rest⟩
  exact ⟨v, rfl, K', r, σ', hq _ _ hr, rest⟩
theorem OC.fc {P : Program} {f : FuncId} {ys zs : List IV} {e sz : Nat} (h : OC P f ys e sz zs []) : FC P f ys (· = .slice zs) :=
  .ofGC (h.mono (by rintro r s ⟨m, rfl, rfl⟩; exact ⟨_, _, by simp only [ownRes, shut, lk, if_true]; rfl, rfl⟩))
def isNilS : Slots → Bool
  | [] => true
  | _ => false
section
variable (bd : List Nat) (k : Nat) (is : List AIns) (s : St) (i : AIns)
end

def encB (b : UInt8) : IV := .int .u8 b.toNat
@[simp] theorem encB_cells (b : UInt8) : (encB b).cells = [encB b] := rfl
@[simp] theorem encB_one (b : UInt8) : (encB b).one = true := rfl
theorem encB_ofNat' (m : Nat) (h : m < 256) : encB (UInt8.ofNat m) = .int .u8 (m : Int) := by
  unfold encB
  rw [UInt8.toNat_ofNat']
  have : m % 2 ^ 8 = m := Nat.mod_eq_of_lt (by omega)
  rw [this]
theorem unB_enc (bs : List UInt8) : (bs.map encB).mapM unB = some bs := by
  induction bs with
  | nil => rfl
  | cons b bs ih =>
    have : unB (encB b) = some b := by simp [unB, encB]
    simp [this, ih]
theorem oneSize_map {α : Type} {f : α → IV} {sz : Nat} (h : ∀ a, (f a).cells.length = sz ∧ ∀ ys, f a ≠ .tup ys) : ∀ l : List α, oneSize sz (l.map f) = true
  | [] => rfl
  | a :: l => by
    have h1 := h a
    simp only [List.map_cons, oneSize, Bool.and_eq_true, beq_iff_eq]
    refine ⟨⟨?_, h1.1⟩, oneSize_map h l⟩
    split
    · rename_i ys e; exact absurd e (h1.2 ys)
    · rfl
theorem oneSize_bytes (bs : List UInt8) : oneSize 1 (bs.map encB) = true := oneSize_map (f := encB) (sz := 1) (fun b => ⟨rfl, fun ys h => by simp [encB] at h⟩) bs

end Go.Proofs.YtmdkcapbahjipaaDoor.Ag
