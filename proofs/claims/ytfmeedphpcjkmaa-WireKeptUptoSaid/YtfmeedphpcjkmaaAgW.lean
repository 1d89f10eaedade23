/- The walk told at once: what is to be shown of a function's code, as one proposition. -/
import Derived.Test.YtfmeedphpcjkmaaAgV
set_option linter.unusedVariables false
set_option linter.unusedSectionVars false
set_option linter.unusedSimpArgs false
namespace Go.Proofs.Ytfmeedphpcjkmaa.Ag
open Go.RowKit (Below)

/-- What is known of other functions: by values; that give a list of their caller's own; that are lent one. -/
structure Env where
  fc : List (Nat × (List IV → Option IV)) := []
  oc : List (Nat × (List IV → Option (Nat × Nat × List IV × List IV))) := []
  lc : List (Nat × (Nat → Nat → List IV → List IV → Option (List IV))) := []
  gc : List (Nat × (List TV → Slots → Option (TV × Slots))) := []
  gr : List (Nat × (List TV → Slots → (TV → Slots → Prop) → Prop)) := []
  split : Bool := false
  ask : Bool := false
  xt : Nat → Prm → Code → (AEx → St → Prop) → St → Prop := fun _ _ _ _ _ => False

structure EnvOk (P : Program) (E : Env) : Prop where
  fc : ∀ f g, lk E.fc f = some g → ∀ xs r, g xs = some r → FC P f xs (· = r)
  oc : ∀ f g, lk E.oc f = some g → ∀ xs e sz zs rets, g xs = some (e, sz, zs, rets) → OC P f xs e sz zs rets
  lc : ∀ f g, lk E.lc f = some g → ∀ e sz xs ys zs, g e sz xs ys = some zs → LC P f e sz xs ys (· = zs)
  gc : ∀ f g, lk E.gc f = some g → ∀ vs σ r σ', g vs σ = some (r, σ') → GC P f vs σ (fun r' σ'' => r' = r ∧ σ'' = σ')
  gr : ∀ f R, lk E.gr f = some R → callOk P f = true ∧ ∀ vs σ Q, R vs σ Q → GC P f vs σ Q
  xt : ∀ N p c Q s, E.xt N p c Q s → wpc P (.ext N p c) Q s
theorem EnvOk.none {P : Program} : EnvOk P {} := ⟨fun f g h => by simp [lk] at h, fun f g h => by simp [lk] at h, fun f g h => by simp [lk] at h, fun f g h => by simp [lk] at h, fun f g h => by simp [lk] at h, fun _ _ _ _ _ h => h.elim⟩
theorem EnvOk.noneS {P : Program} : EnvOk P { split := true } := ⟨fun f g h => by simp [lk] at h, fun f g h => by simp [lk] at h, fun f g h => by simp [lk] at h, fun f g h => by simp [lk] at h, fun f g h => by simp [lk] at h, fun _ _ _ _ _ h => h.elim⟩
theorem EnvOk.addF {P : Program} {E : Env} (h : EnvOk P E) {f : Nat} {g : List IV → Option IV} (k : ∀ xs r, g xs = some r → FC P f xs (· = r)) : EnvOk P { E with fc := (f, g) :: E.fc } := by
  refine ⟨fun f' g' h' => ?_, h.oc, h.lc, h.gc, h.gr, h.xt⟩
  simp only [lk] at h'
  split at h'
  · rename_i e; subst e; injection h' with h'; subst h'; exact k
  · exact h.fc f' g' h'
theorem EnvOk.addO {P : Program} {E : Env} (h : EnvOk P E) {f : Nat} {g : List IV → Option (Nat × Nat × List IV × List IV)} (k : ∀ xs e sz zs rets, g xs = some (e, sz, zs, rets) → OC P f xs e sz zs rets) : EnvOk P { E with oc := (f, g) :: E.oc } := by
  refine ⟨h.fc, fun f' g' h' => ?_, h.lc, h.gc, h.gr, h.xt⟩
  simp only [lk] at h'
  split at h'
  · rename_i e; subst e; injection h' with h'; subst h'; exact k
  · exact h.oc f' g' h'
theorem EnvOk.addL {P : Program} {E : Env} (h : EnvOk P E) {f : Nat} {g : Nat → Nat → List IV → List IV → Option (List IV)} (k : ∀ e sz xs ys zs, g e sz xs ys = some zs → LC P f e sz xs ys (· = zs)) : EnvOk P { E with lc := (f, g) :: E.lc } := by
  refine ⟨h.fc, h.oc, fun f' g' h' => ?_, h.gc, h.gr, h.xt⟩
  simp only [lk] at h'
  split at h'
  · rename_i e; subst e; injection h' with h'; subst h'; exact k
  · exact h.lc f' g' h'

theorem EnvOk.addG {P : Program} {E : Env} (h : EnvOk P E) {f : Nat} {g : List TV → Slots → Option (TV × Slots)} (k : ∀ vs σ r σ', g vs σ = some (r, σ') → GC P f vs σ (fun r' σ'' => r' = r ∧ σ'' = σ')) : EnvOk P { E with gc := (f, g) :: E.gc } := by
  refine ⟨h.fc, h.oc, h.lc, fun f' g' h' => ?_, h.gr, h.xt⟩
  simp only [lk] at h'
  split at h'
  · rename_i e; subst e; injection h' with h'; subst h'; exact k
  · exact h.gc f' g' h'
theorem EnvOk.addR {P : Program} {E : Env} (h : EnvOk P E) {f : Nat} (hf : callOk P f = true) : EnvOk P { E with gr := (f, fun vs σ Q => GC P f vs σ Q) :: E.gr } := by
  refine ⟨h.fc, h.oc, h.lc, h.gc, fun f' g' h' => ?_, h.xt⟩
  simp only [lk] at h'
  split at h'
  · rename_i e; subst e; injection h' with h'; subst h'; exact ⟨hf, fun _ _ _ k => k⟩
  · exact h.gr f' g' h'

/-- .. with the statements that are walked by other laws. -/
theorem EnvOk.addX {P : Program} {E : Env} (h : EnvOk P E) : EnvOk P { E with xt := fun N p c Q s => wpc P (.ext N p c) Q s } := ⟨h.fc, h.oc, h.lc, h.gc, h.gr, fun _ _ _ _ _ k => k⟩
def vcT (rest : St → Prop) (s : St) (d : Option Nat) : Option (TV × Slots) → Prop
  | some (r, σ') => rest ({ s with σ := σ' }.put d r)
  | none => False
/-- The place of a list that a call gives. -/
def giftK (d : Option Nat) : Nat := 1000 + d.getD 0
def vcV (rest : St → Prop) (s : St) (d : Option Nat) : Option IV → Prop
  | some r => rest (s.put d (.iv r))
  | none => False
def vcO (rest : St → Prop) (s : St) (d : Option Nat) : Option (Nat × Nat × List IV × List IV) → Prop
  | some (e, sz, zs, rets) => rest ({ s with σ := upd s.σ (giftK d) (nxt s.σ (giftK d), .list e sz zs) }.put d (ownRes (giftK d) (nxt s.σ (giftK d)) rets))
  | none => False
def vcL (rest : St → Prop) (s : St) (d : Option Nat) (k n e sz : Nat) : Option (List IV) → Prop
  | some zs => rest ({ s with σ := upd s.σ k (n + 1, .list e sz zs) }.put d (.lst k (n + 1)))
  | none => False
def vcF1 (rest : St → Prop) (s : St) (d : Option Nat) (g : List IV → Option IV) : Option (List IV × Slots) → Prop
  | some (xs, σ') => vcV rest { s with σ := σ' } d (g xs)
  | none => False
def vcO1 (rest : St → Prop) (s : St) (d : Option Nat) (g : List IV → Option (Nat × Nat × List IV × List IV)) : Option (List IV × Slots) → Prop
  | some (xs, σ') => vcO rest { s with σ := σ' } d (g xs)
  | none => False
def vcL1 (rest : St → Prop) (s : St) (d : Option Nat) (g : Nat → Nat → List IV → List IV → Option (List IV)) : Option (Nat × Nat × Nat × Nat × List IV × List IV × Slots) → Prop
  | some (k, n, e, sz, xs, ys, σ1) => vcL rest { s with σ := σ1 } d k n e sz (g e sz xs ys)
  | none => False
def argsL (s : St) : List AOpd → Option (Nat × Nat × Nat × Nat × List IV × List IV × Slots)
  | a0 :: as_ => callArgsL s a0 as_
  | [] => none
def vcGv (rest : St → Prop) (s : St) (d : Option Nat) (g : List TV → Slots → Option (TV × Slots)) : Option (List TV) → Prop
  | some vs => vcT rest s d (g vs s.σ)
  | none => False
/-- A call by a contract that is told by hand, its result known: see vcExD_mk. -/
def vcExD (rest : St → Prop) (s : St) (d : Option Nat) (R : List TV → Slots → (TV → Slots → Prop) → Prop) (vs : List TV) : Prop :=
  ∃ r σ', R vs s.σ (fun r' σ'' => r' = r ∧ σ'' = σ') ∧ rest ({ s with σ := σ' }.put d r)
theorem vcExD_mk {rest : St → Prop} {s : St} {d : Option Nat} {R : List TV → Slots → (TV → Slots → Prop) → Prop} {vs : List TV} (r : TV) (σ' : Slots) (h : R vs s.σ (fun r' σ'' => r' = r ∧ σ'' = σ')) (k : rest ({ s with σ := σ' }.put d r)) : vcExD rest s d R vs := ⟨r, σ', h, k⟩
def vcCh (rest : St → Prop) (s : St) (d : Option Nat) : Option (List TV) → Option (List TV → Slots → (TV → Slots → Prop) → Prop) → Prop
  | some vs, some R => vcExD rest s d R vs
  | _, _ => False
def vcC4 (E : Env) (rest : St → Prop) (s : St) (d : Option Nat) (f : FuncId) (as_ : List AOpd) : Option (List TV → Slots → Option (TV × Slots)) → Prop
  | some g => vcGv rest s d g (evAll s.ρ as_)
  | none => vcCh rest s d (evAll s.ρ as_) (lk E.gr f)
def vcC3 (E : Env) (rest : St → Prop) (s : St) (d : Option Nat) (f : FuncId) (as_ : List AOpd) : Option (Nat → Nat → List IV → List IV → Option (List IV)) → Prop
  | some g => vcL1 rest s d g (argsL s as_)
  | none => vcC4 E rest s d f as_ (lk E.gc f)
def vcC2 (E : Env) (rest : St → Prop) (s : St) (d : Option Nat) (f : FuncId) (as_ : List AOpd) : Option (List IV → Option (Nat × Nat × List IV × List IV)) → Prop
  | some g => vcO1 rest s d g (callArgs s as_)
  | none => vcC3 E rest s d f as_ (lk E.lc f)
def vcC1 (E : Env) (rest : St → Prop) (s : St) (d : Option Nat) (f : FuncId) (as_ : List AOpd) : Option (List IV → Option IV) → Prop
  | some g => vcF1 rest s d g (callArgs s as_)
  | none => vcC2 E rest s d f as_ (lk E.oc f)
def vcIdx (rest : St → Prop) (s : St) (d : Option Nat) (sz : Nat) : Option TV → Option TV → Prop
  | some (.iv (.slice xs)), some (.iv (.int _ n)) => 0 ≤ n ∧ n < xs.length ∧ ∀ z, xs[n.toNat]? = some z → z.cells.length = sz ∧ rest (s.put d (.iv (.ref z)))
  | _, _ => False
def vcIdxL (rest : St → Prop) (s : St) (d : Option Nat) : Option TV → Prop
  | some r => rest (s.put d r)
  | none => False
/-- .. of a list of the call's own, too. -/
def vcIdxO (rest : St → Prop) (s : St) (d : Option Nat) (sz : Nat) : Option TV → Option TV → Prop
  | some (.iv (.slice xs)), some (.iv (.int _ n)) => 0 ≤ n ∧ n < xs.length ∧ ∀ z, xs[n.toNat]? = some z → z.cells.length = sz ∧ rest (s.put d (.iv (.ref z)))
  | some (.lst k m), some (.iv (.int _ n)) => vcIdxL rest s d (idxL s.σ sz n k m)
  | _, _ => False
def vcIdxS (rest : St → Prop) (s : St) (d : Option Nat) : Option TV → Option TV → Prop
  | some (.iv (.str b)), some (.iv (.int _ n)) => 0 ≤ n ∧ n < b.size ∧ ∀ z, b.data.toList[n.toNat]? = some z → rest (s.put d (.iv (.int .u8 z.toNat)))
  | _, _ => False
def vcSlc2 (rest : St → Prop) (s : St) (d : Option Nat) (sz : Nat) (l h m : Option Int) : Option (IV × Slots) → Prop
  | some (.slice xs, σ') => oneSize sz xs = true ∧ 0 ≤ l.getD 0 ∧ l.getD 0 ≤ h.getD xs.length ∧ h.getD xs.length ≤ m.getD xs.length ∧ m.getD xs.length ≤ xs.length ∧ rest ({ s with σ := σ' }.put d (.iv (.slice (cut xs (l.getD 0).toNat (h.getD xs.length).toNat))))
  | _ => False
def vcSlc (rest : St → Prop) (s : St) (d : Option Nat) (sz : Nat) : Option TV → Option (Option Int) → Option (Option Int) → Option (Option Int) → Prop
  | some v, some l, some h, some m => vcSlc2 rest s d sz l h m (shut v s.σ)
  | _, _, _, _ => False
def vcSlcS (rest : St → Prop) (s : St) (d : Option Nat) : Option TV → Option (Option Int) → Option (Option Int) → Prop
  | some (.iv (.str b)), some l, some h => 0 ≤ l.getD 0 ∧ l.getD 0 ≤ h.getD b.size ∧ h.getD b.size ≤ b.size ∧ rest (s.put d (.iv (.str (b.extract (l.getD 0).toNat (h.getD b.size).toNat))))
  | _, _, _ => False
/-- A call by a contract that is told by hand: see vcEx_mk. -/
def vcEx (rest : St → Prop) (s : St) (d : Option Nat) (R : List TV → Slots → (TV → Slots → Prop) → Prop) (vs : List TV) : Prop :=
  ∃ Q, R vs s.σ Q ∧ ∀ r σ', Q r σ' → rest ({ s with σ := σ' }.put d r)
theorem vcEx_mk {rest : St → Prop} {s : St} {d : Option Nat} {R : List TV → Slots → (TV → Slots → Prop) → Prop} {vs : List TV} (Q : TV → Slots → Prop) (h : R vs s.σ Q) (k : ∀ r σ', Q r σ' → rest ({ s with σ := σ' }.put d r)) : vcEx rest s d R vs := ⟨Q, h, k⟩
def vcCvR (rest : St → Prop) (s : St) (d : Option Nat) (vs : List TV) : Option (List TV → Slots → (TV → Slots → Prop) → Prop) → Prop
  | some R => vcEx rest s d R vs
  | none => False
def vcCv2 (E : Env) (rest : St → Prop) (s : St) (d : Option Nat) (vs : List TV) : Option (FuncId × List TV × List TV) → Prop
  | some (f, fs, cs) => vcCvR rest s d (fs ++ vs ++ cs) (lk E.gr f)
  | none => False
def vcCv (E : Env) (rest : St → Prop) (s : St) (d : Option Nat) : Option TV → Option (List TV) → Prop
  | some t, some vs => vcCv2 E rest s d vs (fnParts t)
  | _, _ => False
/-- A list's making, its place chosen by hand. -/
def vcAskT (rest : St → Prop) (s : St) (d : Option Nat) (e sz b : Nat) (y : IV) (x c : AOpd) : Prop := ∃ k, vcT rest s d (aop s.ρ s.σ (.mks k e sz b y x c))
theorem vcAsk_mk {rest : St → Prop} {s : St} {d : Option Nat} {e sz b : Nat} {y : IV} {x c : AOpd} (k : Nat) (h : vcT rest s d (aop s.ρ s.σ (.mks k e sz b y x c))) : vcAskT rest s d e sz b y x c := ⟨k, h⟩
def vcAsk (rest : St → Prop) (s : St) (d : Option Nat) (k e sz b : Nat) (y : IV) (x c : AOpd) : Bool → Prop
  | true => vcAskT rest s d e sz b y x c
  | false => vcT rest s d (aop s.ρ s.σ (.mks k e sz b y x c))
/-- An append to a nil slice: the new list's place may be asked for. -/
def vcApT (rest : St → Prop) (s : St) (d : Option Nat) (e sz b : Nat) (x y : AOpd) : Prop := ∃ k, vcT rest s d (aop s.ρ s.σ (.app k e sz b x y))
theorem vcAp_mk {rest : St → Prop} {s : St} {d : Option Nat} {e sz b : Nat} {x y : AOpd} (k : Nat) (h : vcT rest s d (aop s.ρ s.σ (.app k e sz b x y))) : vcApT rest s d e sz b x y := ⟨k, h⟩
def vcAp (rest : St → Prop) (s : St) (d : Option Nat) (k e sz b : Nat) (x y : AOpd) : Bool → Option TV → Prop
  | true, some (.iv .nil) => vcApT rest s d e sz b x y
  | _, _ => vcT rest s d (aop s.ρ s.σ (.app k e sz b x y))
def vcI (E : Env) (rest : St → Prop) (s : St) (d : Option Nat) : AOp → Prop
  | .mks k e sz b y x c => vcAsk rest s d k e sz b y x c E.ask
  | .app k e sz b x y => vcAp rest s d k e sz b x y E.ask (ev s.ρ x)
  | .callv x as_ => vcCv E rest s d (ev s.ρ x) (evAll s.ρ as_)
  | .call f as_ => vcC1 E rest s d f as_ (lk E.fc f)
  | .idxA sz x y => vcIdxO rest s d sz (ev s.ρ x) (ev s.ρ y)
  | .idxS x y => vcIdxS rest s d (ev s.ρ x) (ev s.ρ y)
  | .slc sz x lo hi mx => vcSlc rest s d sz (ev s.ρ x) (evOpt s.ρ lo) (evOpt s.ρ hi) (evOpt s.ρ mx)
  | .slcS x lo hi => vcSlcS rest s d (ev s.ρ x) (evOpt s.ρ lo) (evOpt s.ρ hi)
  | op => vcT rest s d (aop s.ρ s.σ op)
/-- What is told by parting: whether it is done. -/
def partOp : AOp → Bool
  | .call _ _ | .callv _ _ | .idxA _ _ _ | .idxS _ _ | .slc _ _ _ _ _ | .slcS _ _ _ => true
  | _ => false
/-- .. where it is known to be done: its operands are what they hold. -/
def vcIg (E : Env) (rest : St → Prop) (s : St) (d : Option Nat) : AOp → Prop
  | .callv x as_ => vcCv E rest s d (ev s.ρ x) (evAll s.ρ as_)
  | .call f as_ => vcC1 E rest s d f as_ (lk E.fc f)
  | .idxA sz x y => vcIdx rest s d sz (ev (opnR s.ρ [x, y]) x) (ev (opnR s.ρ [x, y]) y)
  | .idxS x y => vcIdxS rest s d (ev (opnR s.ρ [x, y]) x) (ev (opnR s.ρ [x, y]) y)
  | .slc sz x lo hi mx => vcSlc rest s d sz (ev s.ρ x) (evOpt s.ρ lo) (evOpt s.ρ hi) (evOpt s.ρ mx)
  | .slcS x lo hi => vcSlcS rest s d (ev s.ρ x) (evOpt s.ρ lo) (evOpt s.ρ hi)
  | op => vcT rest s d (aop (opnR s.ρ (opds op)) s.σ op)
def vcIf (E : Env) (rest : St → Prop) (s : St) (d : Option Nat) (op : AOp) (want : Bool) (g : TV) (x : Bool) : Option (TV × Slots) → Prop
  | some (r, []) => rest (s.put d (gwrap want g r))
  | _ => (x = true → vcIg E rest s d op) ∧ (x = false → rest (s.put d .dead))
def vcB (E : Env) (rest : St → Prop) (s : St) (d : Option Nat) (op : AOp) (want : Bool) (g : TV) (x : Bool) : Bool → Prop
  | false => vcIf E rest s d op want g x (aop (gρ2 want g s.ρ (opds op)) [] op)
  | true => (x = true → vcIg E rest s d op) ∧ (x = false → rest (s.put d .dead))
def vcG2 (E : Env) (rest : St → Prop) (s : St) (d : Option Nat) (op : AOp) (want : Bool) (g : TV) : Option Bool → Prop
  | some x => vcB E rest s d op want g x (partOp op)
  | none => False
def vcSp (E : Env) (rest : St → Prop) (s : St) (d : Option Nat) (op : AOp) (want : Bool) : TV → Prop
  | .iv (.bool b) => (b = want → vcI E rest s d op) ∧ (b ≠ want → rest (s.put d .dead))
  | .dead => rest (s.put d .dead)
  | _ => False
def vcG0 (E : Env) (rest : St → Prop) (s : St) (d : Option Nat) (op : AOp) (want : Bool) (g : TV) : Bool → Prop
  | true => vcSp E rest s d op want g
  | false => vcG2 E rest s d op want g (gcond want g)
def vcGd (E : Env) (rest : St → Prop) (s : St) (d : Option Nat) (op : AOp) (want : Bool) : Option TV → Prop
  | some g => vcG0 E rest s d op want g E.split
  | none => False
def vcR (E : Env) (K : St → Prop) : List AIns → St → Prop
  | [], s => K s
  | ⟨d, none, op⟩ :: is, s => vcI E (vcR E K is) s d op
  | ⟨d, some (t, want), op⟩ :: is, s => vcGd E (vcR E K is) s d op want (lk s.ρ t)

/-! ### regions that draw -/
def vcFr (rest : St → Prop) (s : St) (d : Option Nat) : Option (TV × Slots) → Prop
  | some (r, []) => rest (s.put d r)
  | _ => False
def vcFrF (rest : St → Prop) (s : St) (d : Option Nat) (g : List IV → Option IV) : Option (List IV × Slots) → Prop
  | some (xs, []) => vcV rest s d (g xs)
  | _ => False
def vcFrC (rest : St → Prop) (s : St) (d : Option Nat) (as_ : List AOpd) : Option (List IV → Option IV) → Prop
  | some g => vcFrF rest s d g (callArgs { s with σ := [] } as_)
  | none => False
def vcFree (E : Env) (rest : St → Prop) (s : St) (d : Option Nat) : AOp → Prop
  | .call f as_ => vcFrC rest s d as_ (lk E.fc f)
  | .idxA sz x y => vcIdx rest s d sz (ev s.ρ x) (ev s.ρ y)
  | .idxS x y => vcIdxS rest s d (ev s.ρ x) (ev s.ρ y)
  | .slcS x lo hi => vcSlcS rest s d (ev s.ρ x) (evOpt s.ρ lo) (evOpt s.ρ hi)
  | op => vcFr rest s d (aop s.ρ [] op)
def isO : AOp → Bool
  | .call _ _ => true
  | _ => false
def vcBd (E : Env) (rest : St → Prop) (s : St) (d : Option Nat) : AOp → Prop
  | .call f as_ => match lk E.fc f with
    | some g => vcF1 rest s d g (callArgs s as_)
    | none => vcC3 E rest s d f as_ (lk E.lc f)
  | op => vcT rest s d (aop s.ρ s.σ op)
def vcD1 (E : Env) (rest : St → Prop) (s : St) (d : Option Nat) (op : AOp) : Bool → Prop
  | true => vcBd E rest s d op
  | false => vcFree E rest s d op
def vcDG (E : Env) (rest : St → Prop) (s : St) (d : Option Nat) (op : AOp) (want bd : Bool) : Option TV → Prop
  | some (.iv (.bool b)) => (b = want → vcD1 E rest s d op bd) ∧ (b ≠ want → rest (s.put d .dead))
  | some .dead => rest (s.put d .dead)
  | _ => False
def vcD (E : Env) (bd : List Nat) (K : St → Prop) : Nat → List AIns → St → Prop
  | _, [], s => K s
  | k, ⟨d, none, op⟩ :: is, s => vcD1 E (vcD E bd K (k + 1) is) s d op (bd.contains k)
  | k, ⟨d, some (t, want), op⟩ :: is, s => vcDG E (vcD E bd K (k + 1) is) s d op want (bd.contains k) (lk s.ρ t)

/-! .. with reads out of turn, with creators out of turn -/
def allIn : List Nat → List Nat → Prop
  | [], _ => True
  | p :: l, X => X.contains p = true ∧ allIn l X
theorem allIn_is : ∀ {l X : List Nat}, allIn l X → ∀ p ∈ l, p ∈ X
  | [], _, _, p, hp => by cases hp
  | q :: l, X, h, p, hp => by
    rcases List.mem_cons.1 hp with rfl | hp
    · exact List.contains_iff_mem.1 h.1
    · exact allIn_is h.2 p hp
def sameAt (σ σ' : Slots) : List Nat → Prop
  | [] => True
  | p :: l => lk σ' p = lk σ p ∧ sameAt σ σ' l
theorem sameAt_is {σ σ' : Slots} : ∀ {l : List Nat}, sameAt σ σ' l → ∀ p ∈ l, lk σ' p = lk σ p
  | [], _, p, hp => by cases hp
  | q :: l, h, p, hp => by
    rcases List.mem_cons.1 hp with rfl | hp
    · exact h.1
    · exact sameAt_is h.2 p hp
def vcRdT (rest : St → Prop) (s : St) (d : Option Nat) (X : List Nat) : Option (List Nat) → Option (TV × Slots) → Prop
  | some ps, some (r, _) => allIn ps X ∧ rest (s.put d r)
  | _, _ => False
def vcRdL (rest : St → Prop) (s : St) (d : Option Nat) (X : List Nat) (k : Nat) : Option TV → Prop
  | some r => X.contains k = true ∧ rest (s.put d r)
  | none => False
def vcRdI (rest : St → Prop) (s : St) (d : Option Nat) (X : List Nat) (sz : Nat) : Option TV → Option TV → Prop
  | some (.iv (.slice xs)), some (.iv (.int _ n)) => 0 ≤ n ∧ n < xs.length ∧ ∀ z, xs[n.toNat]? = some z → z.cells.length = sz ∧ rest (s.put d (.iv (.ref z)))
  | some (.lst k m), some (.iv (.int _ n)) => vcRdL rest s d X k (idxL s.σ sz n k m)
  | _, _ => False
def vcRd (E : Env) (rest : St → Prop) (s : St) (d : Option Nat) (X : List Nat) : AOp → Prop
  | .idxA sz x y => vcRdI rest s d X sz (ev s.ρ x) (ev s.ρ y)
  | .load sz ag x => vcRdT rest s d X (rdPlaces s.ρ (.load sz ag x)) (aop s.ρ s.σ (.load sz ag x))
  | .len b x => vcRdT rest s d X (rdPlaces s.ρ (.len b x)) (aop s.ρ s.σ (.len b x))
  | .lenm x => vcRdT rest s d X (rdPlaces s.ρ (.lenm x)) (aop s.ρ s.σ (.lenm x))
  | .build zs ps => vcRdT rest s d X (rdPlaces s.ρ (.build zs ps)) (aop s.ρ s.σ (.build zs ps))
  | op => vcFree E rest s d op
def vcX1 (E : Env) (rest : St → Prop) (s : St) (d : Option Nat) (X : List Nat) (op : AOp) : Bool → Bool → Bool → Prop
  | true, _, ex => vcBd E (fun s' => (ex = false → sameAt s.σ s'.σ X) ∧ rest s') s d op
  | false, true, _ => vcRd E rest s d X op
  | false, false, _ => vcFree E rest s d op
def vcXG (E : Env) (rest : St → Prop) (s : St) (d : Option Nat) (X : List Nat) (op : AOp) (want bd rd ex : Bool) : Option TV → Prop
  | some (.iv (.bool b)) => (b = want → vcX1 E rest s d X op bd rd ex) ∧ (b ≠ want → rest (s.put d .dead))
  | some .dead => rest (s.put d .dead)
  | _ => False
def vcX (E : Env) (bd X : List Nat) (K : St → Prop) : Nat → List AIns → St → Prop
  | _, [], s => K s
  | k, ⟨d, none, op⟩ :: is, s => vcX1 E (vcX E bd X K (k + 1) is) s d X op (bd.contains k) (bd.contains (k + 1000000)) (bd.contains (k + 2000000))
  | k, ⟨d, some (t, want), op⟩ :: is, s => vcXG E (vcX E bd X K (k + 1) is) s d X op want (bd.contains k) (bd.contains (k + 1000000)) (bd.contains (k + 2000000)) (lk s.ρ t)
def plOp : AOp → Nat
  | .mkmap k _ => k
  | .mks k _ _ _ _ _ _ => k
  | .blist k _ _ => k
  | .alloc k _ => k
  | _ => 0
def vcCrP (rest : St → Prop) (s : St) (d : Option Nat) (k : Nat) (r : TV) : Option (Nat × Item) → Prop
  | some (n, it) => lk s.σ k = none ∧ rest ({ s with σ := upd s.σ k (n, it) }.put d r)
  | none => False
def vcCr (rest : St → Prop) (s : St) (d : Option Nat) (k : Nat) : Option (TV × Slots) → Prop
  | some (r, σ1) => vcCrP rest s d k r (lk σ1 k)
  | none => False
def vcY1 (E : Env) (rest : St → Prop) (s : St) (d : Option Nat) (X : List Nat) (op : AOp) : Bool → Prop
  | true => X.contains (plOp op) = false ∧ vcCr rest s d (plOp op) (aop s.ρ s.σ op)
  | false => vcRd E rest s d X op
def vcYG (E : Env) (rest : St → Prop) (s : St) (d : Option Nat) (X : List Nat) (op : AOp) (want cr : Bool) : Option TV → Prop
  | some (.iv (.bool b)) => (b = want → vcY1 E rest s d X op cr) ∧ (b ≠ want → rest (s.put d .dead))
  | some .dead => rest (s.put d .dead)
  | _ => False
def vcY (E : Env) (X : List Nat) (K : St → Prop) : List AIns → St → Prop
  | [], s => K s
  | ⟨d, none, op⟩ :: is, s => vcY1 E (vcY E X K is) s d X op (isCr op)
  | ⟨d, some (t, want), op⟩ :: is, s => vcYG E (vcY E X K is) s d X op want (isCr op) (lk s.ρ t)
def xsOf : List Nat → List Nat
  | [] => []
  | n :: l => if 4000000 ≤ n then (n - 4000000) :: xsOf l else xsOf l
def vcDr2 (E : Env) (bd : List Nat) (K : St → Prop) (is : List AIns) (s : St) : Bool → Bool → Prop
  | true, _ => vcY E (xsOf bd) K is s
  | false, true => vcX E bd (xsOf bd) K 0 is s
  | false, false => vcD E bd K 0 is s
def vcDr (E : Env) (bd : List Nat) (K : St → Prop) (is : List AIns) (s : St) : Prop := vcDr2 E bd K is s (bd.contains 3000000) (anyRd bd)

def vcCond (A B : Prop) : Option TV → Prop
  | some (.iv (.bool t)) => (t = true → A) ∧ (t = false → B)
  | _ => False
def vc (E : Env) : ACode → (AEx → St → Prop) → St → Prop
  | .skip, Q, s => Q .normal s
  | .region is, Q, s => vcR E (Q .normal) is s
  | .draw bd is, Q, s => vcDr E bd (Q .normal) is s
  | .seq a b, Q, s => vc E a (thenC (vc E b Q) Q) s
  | .cond c a b, Q, s => ∃ t, ev s.ρ c = some (.iv (.bool t)) ∧ (t = true → vc E a Q s) ∧ (t = false → vc E b Q s)
  | .block id a, Q, s => vc E a (blockC id Q) s
  | .loop a, Q, s => ∃ (I : Nat → St → Prop) (n : Nat), (∃ s', Adopts s s' ∧ I n s') ∧ ∀ n s, I n s → vc E a (thenC (fun s' => ∃ n', n' < n ∧ I n' s') Q) s
  | .exit id, Q, s => Q (.exit id) s
  | .scope a, Q, s => vc E a Q s
  | .label, Q, s => Q .normal s
  | .ret, Q, s => Q .ret s
  | .ext N p c, Q, s => E.xt N p c Q s

/-! ### it suffices -/
section
variable {P : Program} {E : Env} (hE : EnvOk P E)
theorem vcT_ok {rest : St → Prop} {s : St} {d : Option Nat} {op : AOp} (h : vcT rest s d (aop s.ρ s.σ op)) : ∃ R, Step P s op R ∧ ∀ r σ', R r σ' → rest ({ s with σ := σ' }.put d r) := by
  cases ho : aop s.ρ s.σ op with
  | none => rw [ho] at h; exact h.elim
  | some p =>
    obtain ⟨r, σ'⟩ := p
    rw [ho] at h
    exact ⟨_, .op _ r σ' ho, by rintro r' σ'' ⟨rfl, rfl⟩; exact h⟩
theorem callArgs_is {s : St} {as_ : List AOpd} {xs : List IV} {σ' : Slots} (h : callArgs s as_ = some (xs, σ')) : ∃ vs, evAll s.ρ as_ = some vs ∧ shutAll vs s.σ = some (xs, σ') := by
  unfold callArgs at h
  split at h
  · rename_i vs hvs; exact ⟨vs, hvs, h⟩
  · cases h
include hE
theorem vcI_ok {rest : St → Prop} {s : St} {d : Option Nat} {op : AOp} (h : vcI E rest s d op) : ∃ R, Step P s op R ∧ ∀ r σ', R r σ' → rest ({ s with σ := σ' }.put d r) := by
  cases op
  case call f as_ =>
    simp only [vcI] at h
    cases hf : lk E.fc f with
    | some g =>
      rw [hf] at h; simp only [vcC1] at h
      cases ha : callArgs s as_ with
      | none => rw [ha] at h; exact h.elim
      | some p =>
        obtain ⟨xs, σ'⟩ := p
        rw [ha] at h; simp only [vcF1] at h
        obtain ⟨vs, h1, h2⟩ := callArgs_is ha
        cases hg : g xs with
        | none => rw [hg] at h; exact h.elim
        | some r =>
          rw [hg] at h
          refine ⟨_, .call f as_ vs xs σ' _ h1 h2 (hE.fc f g hf xs r hg), ?_⟩
          rintro r' σ'' ⟨⟨x, rfl, rfl⟩, rfl⟩; exact h
    | none =>
      rw [hf] at h; simp only [vcC1] at h
      cases ho : lk E.oc f with
      | some g =>
        rw [ho] at h; simp only [vcC2] at h
        cases ha : callArgs s as_ with
        | none => rw [ha] at h; exact h.elim
        | some p =>
          obtain ⟨xs, σ'⟩ := p
          rw [ha] at h; simp only [vcO1] at h
          obtain ⟨vs, h1, h2⟩ := callArgs_is ha
          cases hg : g xs with
          | none => rw [hg] at h; exact h.elim
          | some r =>
            obtain ⟨e, sz, zs, rets⟩ := r
            rw [hg] at h
            refine ⟨_, .callO f as_ (giftK d) e sz vs xs zs rets σ' h1 h2 (hE.oc f g ho xs e sz zs rets hg), ?_⟩
            rintro r' σ'' ⟨rfl, rfl⟩; exact h
      | none =>
        rw [ho] at h; simp only [vcC2] at h
        cases hl : lk E.lc f with
        | none =>
          rw [hl] at h; simp only [vcC3] at h
          cases hgc : lk E.gc f with
          | none =>
            rw [hgc] at h; simp only [vcC4] at h
            unfold vcCh at h
            split at h
            · rename_i vs R hvs hR
              obtain ⟨r, σ', h1, h2⟩ := h
              refine ⟨_, .callG f as_ vs _ hvs ((hE.gr f R hR).2 _ _ _ h1), ?_⟩
              rintro r' σ'' ⟨rfl, rfl⟩; exact h2
            · exact h.elim
          | some g =>
            rw [hgc] at h; simp only [vcC4] at h
            cases hvs : evAll s.ρ as_ with
            | none => rw [hvs] at h; exact h.elim
            | some vs =>
              rw [hvs] at h; simp only [vcGv] at h
              cases hg : g vs s.σ with
              | none => rw [hg] at h; exact h.elim
              | some p =>
                obtain ⟨r, σ'⟩ := p
                rw [hg] at h
                refine ⟨_, .callG f as_ vs _ hvs (hE.gc f g hgc vs s.σ r σ' hg), ?_⟩
                rintro r' σ'' ⟨rfl, rfl⟩; exact h
        | some g =>
          rw [hl] at h; simp only [vcC3] at h
          cases as_ with
          | nil => exact h.elim
          | cons a0 as_ =>
            simp only [argsL] at h
            cases ha : callArgsL s a0 as_ with
            | none => rw [ha] at h; exact h.elim
            | some p =>
              obtain ⟨k, n, e, sz, xs, ys, σ1⟩ := p
              rw [ha] at h; simp only [vcL1] at h
              obtain ⟨vs, h0, h1, h2, h3⟩ := callArgsL_is ha
              cases hg : g e sz xs ys with
              | none => rw [hg] at h; exact h.elim
              | some zs =>
                rw [hg] at h
                refine ⟨_, .callL f a0 as_ k n e sz xs vs ys σ1 _ h0 h1 h2 h3 (hE.lc f g hl e sz xs ys zs hg), ?_⟩
                rintro r' σ'' ⟨zs', rfl, rfl, rfl⟩; exact h
  case mks k e sz b y x c =>
    simp only [vcI] at h
    unfold vcAsk at h
    split at h
    · obtain ⟨k', h⟩ := h
      cases ha : aop s.ρ s.σ (.mks k' e sz b y x c) with
      | none => rw [ha] at h; exact h.elim
      | some p =>
        obtain ⟨r, σ'⟩ := p
        rw [ha] at h
        refine ⟨_, .opK k' (.mks k e sz b y x c) r σ' ha, ?_⟩
        rintro r' σ'' ⟨rfl, rfl⟩; exact h
    · exact vcT_ok h
  case app k e sz b x y =>
    simp only [vcI] at h
    unfold vcAp at h
    split at h
    · obtain ⟨k', h⟩ := h
      cases ha : aop s.ρ s.σ (.app k' e sz b x y) with
      | none => rw [ha] at h; exact h.elim
      | some p =>
        obtain ⟨r, σ'⟩ := p
        rw [ha] at h
        refine ⟨_, .opK k' (.app k e sz b x y) r σ' ha, ?_⟩
        rintro r' σ'' ⟨rfl, rfl⟩; exact h
    · exact vcT_ok h
  case callv x as_ =>
    simp only [vcI] at h
    unfold vcCv at h
    split at h
    · rename_i t vs ht hvs
      unfold vcCv2 at h
      split at h
      · rename_i f fs cs hp
        unfold vcCvR at h
        split at h
        · rename_i R hR
          obtain ⟨Q, h1, h2⟩ := h
          obtain ⟨hf, hg⟩ := hE.gr f R hR
          exact ⟨_, .callvG x f t fs cs as_ vs Q ht hp hf hvs (hg _ _ _ h1), h2⟩
        · exact h.elim
      · exact h.elim
    · exact h.elim
  case idxA sz x y =>
    simp only [vcI] at h
    unfold vcIdxO at h
    split at h
    · rename_i xs k n hx hy
      obtain ⟨h0, h1, h2⟩ := h
      have hlt : n.toNat < xs.length := by omega
      obtain ⟨h3, h4⟩ := h2 xs[n.toNat] (by simp [hlt])
      refine ⟨_, .op _ (.iv (.ref xs[n.toNat])) s.σ (by simp only [aop, hx, hy]; rw [if_pos h0]; simp [hlt, h3]), ?_⟩
      rintro r' σ'' ⟨rfl, rfl⟩; exact h4
    · rename_i k m kn n hx hy
      unfold vcIdxL at h
      split at h
      · rename_i r hr
        refine ⟨_, .op _ r s.σ (by simp only [aop, hx, hy, hr]), ?_⟩
        rintro r' σ'' ⟨rfl, rfl⟩; exact h
      · exact h.elim
    · exact h.elim
  case idxS x y =>
    simp only [vcI, vcIdxS] at h
    split at h
    · rename_i b k n hx hy
      obtain ⟨h0, h1, h2⟩ := h
      have hlt : n.toNat < b.data.toList.length := by
        have : b.size = b.data.toList.length := (Array.length_toList (xs := b.data)).symm
        omega
      have h4 := h2 b.data.toList[n.toNat] (by rw [List.getElem?_eq_getElem hlt])
      refine ⟨_, .op _ (.iv (.int .u8 (b.data.toList[n.toNat]).toNat)) s.σ (by simp only [aop, hx, hy]; rw [if_pos h0, List.getElem?_eq_getElem hlt]), ?_⟩
      rintro r' σ'' ⟨rfl, rfl⟩; exact h4
    · exact h.elim
  case slc sz x lo hi mx =>
    simp only [vcI, vcSlc] at h
    split at h
    · rename_i v l hh m hx hl hh' hm
      unfold vcSlc2 at h
      split at h
      · rename_i xs σ' hsh
        obtain ⟨h1, h2, h3, h4, h5, h6⟩ := h
        refine ⟨_, .op _ _ σ' (by simp only [aop, hx, hl, hh', hm, hsh, h1, if_true, cutAt]; rw [if_pos ⟨h2, h3, h4, h5⟩]), ?_⟩
        rintro r' σ'' ⟨rfl, rfl⟩; exact h6
      · exact h.elim
    · exact h.elim
  case slcS x lo hi =>
    simp only [vcI, vcSlcS] at h
    split at h
    · rename_i b l hh hx hl hh'
      obtain ⟨h2, h3, h4, h6⟩ := h
      refine ⟨_, .op _ _ s.σ (by simp only [aop, hx, hl, hh', cutAt]; rw [if_pos ⟨h2, h3, h4, Int.le_refl _⟩]), ?_⟩
      rintro r' σ'' ⟨rfl, rfl⟩; exact h6
    · exact h.elim
  all_goals exact vcT_ok h

theorem vcTu_ok {rest : St → Prop} {s : St} {d : Option Nat} {op : AOp} (l : List AOpd) (h : vcT rest s d (aop (opnR s.ρ l) s.σ op)) : ∃ R, Step P s op R ∧ ∀ r σ', R r σ' → rest ({ s with σ := σ' }.put d r) := by
  cases ha : aop (opnR s.ρ l) s.σ op with
  | none => rw [ha] at h; exact h.elim
  | some p =>
    obtain ⟨r, σ'⟩ := p
    rw [ha] at h
    refine ⟨_, .opU l op r σ' ha, ?_⟩
    rintro r' σ'' ⟨rfl, rfl⟩; exact h
theorem vcIg_ok {rest : St → Prop} {s : St} {d : Option Nat} {op : AOp} (h : vcIg E rest s d op) : ∃ R, Step P s op R ∧ ∀ r σ', R r σ' → rest ({ s with σ := σ' }.put d r) := by
  cases op
  case call f as_ => exact vcI_ok hE (op := .call f as_) h
  case callv x as_ => exact vcI_ok hE (op := .callv x as_) h
  case slc sz x lo hi mx => exact vcI_ok hE (op := .slc sz x lo hi mx) h
  case slcS x lo hi => exact vcI_ok hE (op := .slcS x lo hi) h
  case idxA sz x y =>
    simp only [vcIg, vcIdx] at h
    split at h
    · rename_i xs k n hx hy
      obtain ⟨h0, h1, h2⟩ := h
      have hlt : n.toNat < xs.length := by omega
      obtain ⟨h3, h4⟩ := h2 xs[n.toNat] (by simp [hlt])
      refine ⟨_, .opU [x, y] _ (.iv (.ref xs[n.toNat])) s.σ (by simp only [aop, hx, hy]; rw [if_pos h0]; simp [hlt, h3]), ?_⟩
      rintro r' σ'' ⟨rfl, rfl⟩; exact h4
    · exact h.elim
  case idxS x y =>
    simp only [vcIg, vcIdxS] at h
    split at h
    · rename_i b k n hx hy
      obtain ⟨h0, h1, h2⟩ := h
      have hlt : n.toNat < b.data.toList.length := by
        have : b.size = b.data.toList.length := (Array.length_toList (xs := b.data)).symm
        omega
      have h4 := h2 b.data.toList[n.toNat] (by rw [List.getElem?_eq_getElem hlt])
      refine ⟨_, .opU [x, y] _ (.iv (.int .u8 (b.data.toList[n.toNat]).toNat)) s.σ (by simp only [aop, hx, hy]; rw [if_pos h0, List.getElem?_eq_getElem hlt]), ?_⟩
      rintro r' σ'' ⟨rfl, rfl⟩; exact h4
    · exact h.elim
  all_goals first
    | exact vcTu_ok hE (opds _) h
    | (refine vcTu_ok hE (rest := rest) (d := d) [] ?_; exact h)

theorem vcR_ok {K : St → Prop} : ∀ {is : List AIns} {s : St}, vcR E K is s → wpr P is K s
  | [], s, h => h
  | ⟨d, none, op⟩ :: is, s, h => by
    simp only [vcR] at h
    obtain ⟨R, h1, h2⟩ := vcI_ok hE h
    exact ⟨R, h1, fun r σ' hr => vcR_ok (h2 r σ' hr)⟩
  | ⟨d, some (t, want), op⟩ :: is, s, h => by
    simp only [vcR] at h
    cases hl : lk s.ρ t with
    | none => rw [hl] at h; exact h.elim
    | some g =>
      rw [hl] at h; simp only [vcGd] at h
      cases hsp : E.split with
      | true =>
        rw [hsp] at h; simp only [vcG0] at h
        unfold vcSp at h
        simp only [wpr]
        split at h
        · rename_i b
          refine ⟨_, b == want, hl, rfl, .inl ⟨fun e => ?_, fun e => vcR_ok (h.2 (by simpa using e))⟩⟩
          obtain ⟨R, h1, h2⟩ := vcI_ok hE (h.1 (by simpa using e))
          exact ⟨R, h1, fun r σ' hr => vcR_ok (h2 r σ' hr)⟩
        · exact ⟨_, false, hl, rfl, .inl ⟨fun e => (by cases e), fun _ => vcR_ok h⟩⟩
        · exact h.elim
      | false =>
      rw [hsp] at h; simp only [vcG0] at h
      cases hx : gcond want g with
      | none => rw [hx] at h; exact h.elim
      | some x =>
        rw [hx] at h; simp only [vcG2] at h
        simp only [wpr]
        refine ⟨g, x, hl, hx, ?_⟩
        have split : ((x = true → vcIg E (vcR E K is) s d op) ∧ (x = false → vcR E K is (s.put d .dead))) → ((x = true → ∃ R, Step P s op R ∧ ∀ r σ', R r σ' → wpr P is K ({ s with σ := σ' }.put d r)) ∧ (x = false → wpr P is K (s.put d .dead))) := by
          intro h
          refine ⟨fun e => ?_, fun e => vcR_ok (h.2 e)⟩
          obtain ⟨R, h1, h2⟩ := vcIg_ok hE (h.1 e)
          exact ⟨R, h1, fun r σ' hr => vcR_ok (h2 r σ' hr)⟩
        cases hp : partOp op with
        | false =>
          rw [hp] at h; simp only [vcB] at h
          unfold vcIf at h
          split at h
          · rename_i r hr
            exact .inr ⟨r, hr, vcR_ok h⟩
          · exact .inl (split h)
        | true =>
          rw [hp] at h; simp only [vcB] at h
          exact .inl (split h)

theorem vcFree_ok {rest : St → Prop} {s : St} {d : Option Nat} {op : AOp} (h : vcFree E rest s d op) : ∃ r, FStep P s.ρ op r ∧ rest (s.put d r) := by
  cases op
  case call f as_ =>
    simp only [vcFree] at h
    cases hf : lk E.fc f with
    | none => rw [hf] at h; exact h.elim
    | some g =>
      rw [hf] at h; simp only [vcFrC] at h
      unfold vcFrF at h
      split at h
      · rename_i xs ha
        obtain ⟨vs, h1, h2⟩ := callArgs_is ha
        cases hg : g xs with
        | none => rw [hg] at h; exact h.elim
        | some r => rw [hg] at h; exact ⟨_, .call f as_ vs xs r h1 h2 (hE.fc f g hf xs r hg), h⟩
      · exact h.elim
  case idxA sz x y =>
    simp only [vcFree, vcIdx] at h
    split at h
    · rename_i xs k n hx hy
      obtain ⟨h0, h1, h2⟩ := h
      have hlt : n.toNat < xs.length := by omega
      obtain ⟨h3, h4⟩ := h2 xs[n.toNat] (by simp [hlt])
      exact ⟨_, .op _ (.iv (.ref xs[n.toNat])) (by simp only [aop, hx, hy]; rw [if_pos h0]; simp [hlt, h3]), h4⟩
    · exact h.elim
  case idxS x y =>
    simp only [vcFree, vcIdxS] at h
    split at h
    · rename_i b k n hx hy
      obtain ⟨h0, h1, h2⟩ := h
      have hlt : n.toNat < b.data.toList.length := by
        have : b.size = b.data.toList.length := (Array.length_toList (xs := b.data)).symm
        omega
      have h4 := h2 b.data.toList[n.toNat] (by rw [List.getElem?_eq_getElem hlt])
      exact ⟨_, .op _ (.iv (.int .u8 (b.data.toList[n.toNat]).toNat)) (by simp only [aop, hx, hy]; rw [if_pos h0, List.getElem?_eq_getElem hlt]), h4⟩
    · exact h.elim
  case slcS x lo hi =>
    simp only [vcFree, vcSlcS] at h
    split at h
    · rename_i b l hh hx hl hh'
      obtain ⟨h2, h3, h4, h6⟩ := h
      exact ⟨_, .op _ _ (by simp only [aop, hx, hl, hh', cutAt]; rw [if_pos ⟨h2, h3, h4, Int.le_refl _⟩]), h6⟩
    · exact h.elim
  all_goals
    simp only [vcFree] at h
    unfold vcFr at h
    split at h
    · rename_i r hr; exact ⟨r, .op _ r hr, h⟩
    · exact h.elim

theorem vcBd_ok {rest : St → Prop} {s : St} {d : Option Nat} {op : AOp} (h : vcBd E rest s d op) : ∃ r σ', BStep P s.ρ s.σ op r σ' ∧ rest ({ s with σ := σ' }.put d r) := by
  cases op
  case call f as_ =>
    simp only [vcBd] at h
    split at h
    · rename_i g hf
      cases ha : callArgs s as_ with
      | none => rw [ha] at h; exact h.elim
      | some p =>
        obtain ⟨xs, σ'⟩ := p
        rw [ha] at h; simp only [vcF1] at h
        obtain ⟨vs, h1, h2⟩ := callArgs_is ha
        cases hg : g xs with
        | none => rw [hg] at h; exact h.elim
        | some r => rw [hg] at h; exact ⟨_, _, .call f as_ vs xs r σ' h1 h2 (hE.fc f g hf xs r hg), h⟩
    · cases hl : lk E.lc f with
      | none =>
        rw [hl] at h; simp only [vcC3] at h
        cases hgc : lk E.gc f with
        | none =>
          rw [hgc] at h; simp only [vcC4] at h
          unfold vcCh at h
          split at h
          · rename_i vs R hvs hR
            obtain ⟨r, σ', h1, h2⟩ := h
            exact ⟨_, _, .callG f as_ vs r σ' hvs ((hE.gr f R hR).2 _ _ _ h1), h2⟩
          · exact h.elim
        | some g =>
          rw [hgc] at h; simp only [vcC4] at h
          cases hvs : evAll s.ρ as_ with
          | none => rw [hvs] at h; exact h.elim
          | some vs =>
            rw [hvs] at h; simp only [vcGv] at h
            cases hg : g vs s.σ with
            | none => rw [hg] at h; exact h.elim
            | some p =>
              obtain ⟨r, σ'⟩ := p
              rw [hg] at h
              exact ⟨_, _, .callG f as_ vs r σ' hvs (hE.gc f g hgc vs s.σ r σ' hg), h⟩
      | some g =>
        rw [hl] at h; simp only [vcC3] at h
        cases as_ with
        | nil => exact h.elim
        | cons a0 as_ =>
          simp only [argsL] at h
          cases ha : callArgsL s a0 as_ with
          | none => rw [ha] at h; exact h.elim
          | some p =>
            obtain ⟨k, n, e, sz, xs, ys, σ1⟩ := p
            rw [ha] at h; simp only [vcL1] at h
            obtain ⟨vs, h0, h1, h2, h3⟩ := callArgsL_is ha
            cases hg : g e sz xs ys with
            | none => rw [hg] at h; exact h.elim
            | some zs => rw [hg] at h; exact ⟨_, _, .callL f a0 as_ k n e sz xs zs vs ys σ1 h0 h1 h2 h3 (hE.lc f g hl e sz xs ys zs hg), h⟩
  all_goals
    simp only [vcBd] at h
    unfold vcT at h
    split at h
    · rename_i r σ' hr; exact ⟨r, σ', .op _ r σ' hr, h⟩
    · exact h.elim

theorem vcD1_ok {rest : St → Prop} {s : St} {d : Option Nat} {op : AOp} {b : Bool} (h : vcD1 E rest s d op b) :
    ∃ s', ((b = false ∧ ∃ r, FStep P s.ρ op r ∧ s' = s.put d r) ∨ (b = true ∧ ∃ r σ', BStep P s.ρ s.σ op r σ' ∧ s' = ({ s with σ := σ' }.put d r))) ∧ rest s' := by
  cases b with
  | true =>
    obtain ⟨r, σ', h1, h2⟩ := vcBd_ok hE h
    exact ⟨_, .inr ⟨rfl, r, σ', h1, rfl⟩, h2⟩
  | false =>
    obtain ⟨r, h1, h2⟩ := vcFree_ok hE h
    exact ⟨_, .inl ⟨rfl, r, h1, rfl⟩, h2⟩
theorem vcD_ok {bd : List Nat} {K : St → Prop} : ∀ {is : List AIns} {k : Nat} {s : St}, vcD E bd K k is s → wprd P bd k is K s
  | [], k, s, h => h
  | ⟨d, none, op⟩ :: is, k, s, h => by
    simp only [vcD] at h
    obtain ⟨s', h1, h2⟩ := vcD1_ok hE h
    exact ⟨s', h1, vcD_ok h2⟩
  | ⟨d, some (t, want), op⟩ :: is, k, s, h => by
    simp only [vcD] at h
    unfold vcDG at h
    split at h
    · rename_i b hb
      by_cases hbw : b = want
      · obtain ⟨s', h1, h2⟩ := vcD1_ok hE (h.1 hbw)
        exact ⟨s', .inr ⟨b, hb, fun _ => h1, fun hn => absurd hbw hn⟩, vcD_ok h2⟩
      · exact ⟨_, .inr ⟨b, hb, fun e => absurd e hbw, fun _ => rfl⟩, vcD_ok (h.2 hbw)⟩
    · rename_i hb
      exact ⟨_, .inl ⟨hb, rfl⟩, vcD_ok h⟩
    · exact h.elim

theorem vcRd_ok {rest : St → Prop} {s : St} {d : Option Nat} {X : List Nat} {op : AOp} (h : vcRd E rest s d X op) :
    ∃ r, (FStep P s.ρ op r ∨ ∀ σ', (∀ p ∈ X, lk σ' p = lk s.σ p) → aop s.ρ σ' op = some (r, σ')) ∧ rest (s.put d r) := by
  have rd : ∀ {op : AOp}, vcRdT rest s d X (rdPlaces s.ρ op) (aop s.ρ s.σ op) → ∃ r, (FStep P s.ρ op r ∨ ∀ σ', (∀ p ∈ X, lk σ' p = lk s.σ p) → aop s.ρ σ' op = some (r, σ')) ∧ rest (s.put d r) := by
    intro op h
    unfold vcRdT at h
    split at h
    · rename_i ps r σ0 hps hop
      exact ⟨r, .inr fun σ' hs => read_ok hps hop fun p hp => hs p (allIn_is h.1 p hp), h.2⟩
    · exact h.elim
  cases op
  case idxA sz x y =>
    simp only [vcRd] at h
    unfold vcRdI at h
    split at h
    · rename_i xs k n hx hy
      obtain ⟨h0, h1, h2⟩ := h
      have hlt : n.toNat < xs.length := by omega
      obtain ⟨h3, h4⟩ := h2 xs[n.toNat] (by simp [hlt])
      exact ⟨_, .inl (.op _ (.iv (.ref xs[n.toNat])) (by simp only [aop, hx, hy]; rw [if_pos h0]; simp [hlt, h3])), h4⟩
    · rename_i k m kn n hx hy
      unfold vcRdL at h
      split at h
      · rename_i r hr
        refine ⟨r, .inr fun σ' hs => ?_, h.2⟩
        have hop : aop s.ρ s.σ (.idxA sz x y) = some (r, s.σ) := by simp only [aop, hx, hy, hr]
        exact read_ok (ps := placeT (ev s.ρ x)) rfl hop fun p hp => by
          rw [hx] at hp; simp only [placeT, List.mem_singleton] at hp; subst hp; exact hs _ (List.contains_iff_mem.1 h.1)
      · exact h.elim
    · exact h.elim
  case load sz ag x => exact rd h
  case len b x => exact rd h
  case lenm x => exact rd h
  case build zs ps => exact rd h
  all_goals
    simp only [vcRd] at h
    obtain ⟨r, h1, h2⟩ := vcFree_ok hE h
    exact ⟨r, .inl h1, h2⟩
theorem vcX1_ok {rest : St → Prop} {s : St} {d : Option Nat} {bd X : List Nat} {k : Nat} {g : Option (Nat × Bool)} {op : AOp} (h : vcX1 E rest s d X op (bd.contains k) (bd.contains (k + 1000000)) (bd.contains (k + 2000000))) :
    ∃ s', DOneX P bd X k ⟨d, g, op⟩ s s' ∧ rest s' := by
  cases hb : bd.contains k with
  | true =>
    rw [hb] at h; simp only [vcX1] at h
    obtain ⟨r, σ', h1, h2, h3⟩ := vcBd_ok hE h
    refine ⟨_, .inr ⟨hb, r, σ', h1, fun e => ?_, rfl⟩, h3⟩
    have := sameAt_is (h2 e)
    rw [St.put_σ] at this; exact this
  | false =>
    rw [hb] at h
    cases hr : bd.contains (k + 1000000) with
    | true =>
      rw [hr] at h; simp only [vcX1] at h
      obtain ⟨r, h1, h2⟩ := vcRd_ok hE h
      refine ⟨_, .inl ⟨hb, r, ?_, rfl⟩, h2⟩
      rcases h1 with h1 | h1
      · exact .inl h1
      · exact .inr ⟨hr, h1⟩
    | false =>
      rw [hr] at h; simp only [vcX1] at h
      obtain ⟨r, h1, h2⟩ := vcFree_ok hE h
      exact ⟨_, .inl ⟨hb, r, .inl h1, rfl⟩, h2⟩
theorem vcX_ok {bd X : List Nat} {K : St → Prop} : ∀ {is : List AIns} {k : Nat} {s : St}, vcX E bd X K k is s →
    ∃ S : Nat → St, S 0 = s ∧ (∀ (i : Nat) (x : AIns), is[i]? = some x → DStepX P bd X (k + i) x (S i) (S (i + 1))) ∧ K (S is.length)
  | [], k, s, h => ⟨fun _ => s, rfl, fun i x hx => by simp at hx, h⟩
  | ⟨d, g, op⟩ :: is, k, s, h => by
    have join : ∀ {s1 : St}, DStepX P bd X k ⟨d, g, op⟩ s s1 → vcX E bd X K (k + 1) is s1 →
        ∃ S : Nat → St, S 0 = s ∧ (∀ (j : Nat) (x : AIns), (⟨d, g, op⟩ :: is)[j]? = some x → DStepX P bd X (k + j) x (S j) (S (j + 1))) ∧ K (S (is.length + 1)) := by
      intro s1 h1 h2
      obtain ⟨S, e0, h3, h4⟩ := vcX_ok h2
      refine ⟨fun n => match n with | 0 => s | n + 1 => S n, rfl, ?_, h4⟩
      intro j x hx
      cases j with
      | zero => simp at hx; subst hx; simp only [Nat.add_zero]; rw [e0]; exact h1
      | succ j =>
        simp at hx
        have := h3 j x hx
        rw [show k + (j + 1) = k + 1 + j by omega]
        exact this
    cases g with
    | none =>
      simp only [vcX] at h
      obtain ⟨s', h1, h2⟩ := vcX1_ok hE (bd := bd) (g := none) h
      exact join (by simp only [DStepX]; exact h1) h2
    | some p =>
      obtain ⟨t, want⟩ := p
      simp only [vcX] at h
      unfold vcXG at h
      split at h
      · rename_i b hb
        by_cases hbw : b = want
        · obtain ⟨s', h1, h2⟩ := vcX1_ok hE (bd := bd) (g := some (t, want)) (h.1 hbw)
          exact join (by simp only [DStepX]; exact .inr ⟨b, hb, fun _ => h1, fun hn => absurd hbw hn⟩) h2
        · exact join (by simp only [DStepX]; exact .inr ⟨b, hb, fun e => absurd e hbw, fun _ => by first | rfl | trivial⟩) (h.2 hbw)
      · rename_i hb
        exact join (by simp only [DStepX]; exact .inl ⟨hb, by first | rfl | trivial⟩) h
      · exact h.elim
theorem vcY1_ok {rest : St → Prop} {s : St} {d : Option Nat} {X : List Nat} {Pl : Nat → Nat} {k : Nat} {g : Option (Nat × Bool)} {op : AOp} (h : vcY1 E rest s d X op (isCr op)) (hP : Pl k = plOp op) :
    ∃ s', DOneC P X Pl k ⟨d, g, op⟩ s s' ∧ rest s' := by
  cases hc : isCr op with
  | true =>
    rw [hc] at h; simp only [vcY1] at h
    obtain ⟨hX, h⟩ := h
    unfold vcCr at h
    split at h
    · rename_i r σ1 hop
      unfold vcCrP at h
      split at h
      · rename_i n it hl
        have hset : setK (plOp op) op = op := by cases op <;> first | rfl | exact (Bool.false_ne_true hc).elim
        have hX' : plOp op ∉ X := fun hm => by rw [List.contains_iff_mem.2 hm] at hX; cases hX
        refine ⟨_, .inr ⟨r, n, it, by rw [hP]; exact hX', by rw [hP]; exact h.1, ?_, rfl⟩, by rw [hP]; exact h.2⟩
        rw [hP]
        exact cr_ok hc h.1 (by rw [hset]; exact hop) hl
      · exact h.elim
    · exact h.elim
  | false =>
    rw [hc] at h; simp only [vcY1] at h
    obtain ⟨r, h1, h2⟩ := vcRd_ok hE h
    exact ⟨_, .inl ⟨r, h1, rfl⟩, h2⟩
theorem vcY_ok {X : List Nat} {K : St → Prop} : ∀ {is : List AIns} {k : Nat} {s : St}, vcY E X K is s →
    ∃ (S : Nat → St) (Pl : Nat → Nat), S 0 = s ∧ (∀ (i : Nat) (x : AIns), is[i]? = some x → DStepC P X Pl (k + i) x (S i) (S (i + 1))) ∧ K (S is.length)
  | [], k, s, h => ⟨fun _ => s, fun _ => 0, rfl, fun i x hx => by simp at hx, h⟩
  | ⟨d, g, op⟩ :: is, k, s, h => by
    have join : ∀ {s1 : St}, (∀ Pl : Nat → Nat, Pl k = plOp op → DStepC P X Pl k ⟨d, g, op⟩ s s1) → vcY E X K is s1 →
        ∃ (S : Nat → St) (Pl : Nat → Nat), S 0 = s ∧ (∀ (j : Nat) (x : AIns), (⟨d, g, op⟩ :: is)[j]? = some x → DStepC P X Pl (k + j) x (S j) (S (j + 1))) ∧ K (S (is.length + 1)) := by
      intro s1 h1 h2
      obtain ⟨S, Pl, e0, h3, h4⟩ := vcY_ok (k := k + 1) h2
      refine ⟨fun n => match n with | 0 => s | n + 1 => S n, fun n => if n = k then plOp op else Pl n, rfl, ?_, h4⟩
      intro j x hx
      cases j with
      | zero => simp at hx; subst hx; simp only [Nat.add_zero]; rw [e0]; exact h1 _ (by simp)
      | succ j =>
        simp at hx
        have := h3 j x hx
        rw [show k + (j + 1) = k + 1 + j by omega]
        exact this.congr (by rw [if_neg (by omega)])
    have done : ∀ (Pl : Nat → Nat) (s' : St), DOneC P X (fun n => if n = k then plOp op else Pl n) k ⟨d, g, op⟩ s s' → ∀ Pl' : Nat → Nat, Pl' k = plOp op → DOneC P X Pl' k ⟨d, g, op⟩ s s' := by
      intro Pl s' h Pl' e
      unfold DOneC at h ⊢
      rw [e]
      simpa using h
    cases g with
    | none =>
      simp only [vcY] at h
      obtain ⟨s', h1, h2⟩ := vcY1_ok hE (g := none) (k := k) (Pl := fun n => if n = k then plOp op else 0) h (by simp)
      exact join (fun Pl e => by simp only [DStepC]; exact done (fun _ => 0) s' h1 Pl e) h2
    | some p =>
      obtain ⟨t, want⟩ := p
      simp only [vcY] at h
      unfold vcYG at h
      split at h
      · rename_i b hb
        by_cases hbw : b = want
        · obtain ⟨s', h1, h2⟩ := vcY1_ok hE (g := some (t, want)) (k := k) (Pl := fun n => if n = k then plOp op else 0) (h.1 hbw) (by simp)
          exact join (fun Pl e => by simp only [DStepC]; exact .inr ⟨b, hb, fun _ => done (fun _ => 0) s' h1 Pl e, fun hn => absurd hbw hn⟩) h2
        · exact join (fun Pl e => by simp only [DStepC]; exact .inr ⟨b, hb, fun e => absurd e hbw, fun _ => by first | rfl | trivial⟩) (h.2 hbw)
      · rename_i hb
        exact join (fun Pl e => by simp only [DStepC]; exact .inl ⟨hb, by first | rfl | trivial⟩) h
      · exact h.elim

theorem vc_ok : ∀ (c : ACode) {Q : AEx → St → Prop} {s : St}, vc E c Q s → wpc P c Q s
  | .skip, Q, s, h => h
  | .region is, Q, s, h => ⟨s.ρ, fun _ _ h => h, vcR_ok hE h⟩
  | .draw bd is, Q, s, h => by
    simp only [vc, vcDr] at h
    cases h1 : bd.contains 3000000 with
    | true =>
      rw [h1] at h; simp only [vcDr2] at h
      obtain ⟨S, Pl, e0, h2, h3⟩ := vcY_ok hE (k := 0) h
      exact .inr (.inr ⟨xsOf bd, Pl, S, e0, fun i x hx => by simpa using h2 i x hx, h3⟩)
    | false =>
      rw [h1] at h
      cases h2 : anyRd bd with
      | true =>
        rw [h2] at h; simp only [vcDr2] at h
        obtain ⟨S, e0, h2, h3⟩ := vcX_ok hE h
        exact .inr (.inl ⟨xsOf bd, S, e0, fun i x hx => by simpa using h2 i x hx, h3⟩)
      | false =>
        rw [h2] at h; simp only [vcDr2] at h
        exact .inl (vcD_ok hE h)
  | .seq a b, Q, s, h => by
    refine wpc_mono a _ _ s ?_ (vc_ok a h)
    intro e s' h'
    cases e with
    | normal => exact vc_ok b h'
    | exit id => exact h'
    | ret => exact h'
  | .cond c a b, Q, s, h => by
    obtain ⟨t, h1, h2, h3⟩ := h
    exact ⟨t, h1, fun e => vc_ok a (h2 e), fun e => vc_ok b (h3 e)⟩
  | .block id a, Q, s, h => vc_ok a h
  | .loop a, Q, s, h => by
    obtain ⟨I, n, h0, h1⟩ := h
    exact ⟨I, n, h0, fun n s hi => vc_ok a (h1 n s hi)⟩
  | .exit id, Q, s, h => h
  | .scope a, Q, s, h => vc_ok a h
  | .label, Q, s, h => h
  | .ret, Q, s, h => h
  | .ext N p c, Q, s, h => hE.xt N p c Q s h
end

/-! ### functions -/
def vcEnd (Q : IV → Prop) : Option (IV × Slots) → Prop
  | some (x, _) => Q x
  | none => False
def endsFC (rs : List ARes) (Q : IV → Prop) : AEx → St → Prop
  | .exit _, s => False
  | _, s => vcEnd Q (retOf s rs)
theorem endsFC_is {rs : List ARes} {Q : IV → Prop} {e : AEx} {s : St} (h : endsFC rs Q e s) : endsIn rs (fun r σ => ∃ x σ', shut r σ = some (x, σ') ∧ Q x) e s := by
  have go : ∀ {e : AEx}, e = .ret ∨ e = .normal → vcEnd Q (retOf s rs) → endsIn rs (fun r σ => ∃ x σ', shut r σ = some (x, σ') ∧ Q x) e s := by
    intro e he h
    cases hr : retOf s rs with
    | none => rw [hr] at h; exact h.elim
    | some p =>
      obtain ⟨x, σ'⟩ := p
      rw [hr] at h
      rcases he with rfl | rfl
      · exact endsV hr h
      · exact endsVn hr h
  cases e with
  | exit id => exact h.elim
  | ret => exact go (.inl rfl) h
  | normal => exact go (.inr rfl) h
theorem FC.vc {P : Program} {E : Env} (hE : EnvOk P E) {f : FuncId} {fn : Func} {ch : List (Nat × List Nat)} {af : AFn} {xs : List IV} {Q : IV → Prop} (hf : P.funcs[f]? = some fn) (ht : trFn P ch fn = some af) (hn : xs.length ≤ fn.ntmps)
    (h : vc E af.code (endsFC af.res Q) { ρ := args0 (xs.map .iv) 0, σ := [] }) : FC P f xs Q :=
  .of hf ht hn (wpc_mono af.code _ _ _ (fun e s h => endsFC_is h) (vc_ok hE _ h))

/-- Within the places of a caller. -/
def vcEndG (Q : TV → Slots → Prop) (σ : Slots) : Option (List TV) → Prop
  | some rs => Q (oneOrTup rs) σ
  | none => False
def endsGC (rs : List ARes) (Q : TV → Slots → Prop) : AEx → St → Prop
  | .exit _, s => False
  | _, s => vcEndG Q s.σ (retVals s rs)
theorem endsGC_is {rs : List ARes} {Q : TV → Slots → Prop} {x : AEx} {s : St} (h : endsGC rs Q x s) : endsIn rs Q x s := by
  cases x with
  | exit id => exact h.elim
  | ret =>
    simp only [endsGC] at h
    unfold vcEndG at h
    split at h
    · rename_i vs hr; exact endsIn_ret hr h
    · exact h.elim
  | normal =>
    simp only [endsGC] at h
    unfold vcEndG at h
    split at h
    · rename_i vs hr; exact endsIn_normal hr h
    · exact h.elim
theorem GC.vc {P : Program} {E : Env} (hE : EnvOk P E) {f : FuncId} {fn : Func} {ch : List (Nat × List Nat)} {af : AFn} {vs : List TV} {σ : Slots} {Q : TV → Slots → Prop} (hf : P.funcs[f]? = some fn) (ht : trFn P ch fn = some af) (hn : vs.length ≤ fn.ntmps)
    (h : vc E af.code (endsGC af.res Q) { ρ := args0 vs 0, σ := σ }) : GC P f vs σ Q :=
  GC.of hf ht hn (wpc_mono af.code _ _ _ (fun e s h => endsGC_is h) (vc_ok hE _ h))

/-- A list among others that is given to the caller. -/
def vcEndO (e sz : Nat) (zs rets : List IV) (σ : Slots) : Option (List TV) → Prop
  | some (.lst k m :: vs) => lk σ k = some (m, .list e sz zs) ∧ vs = rets.map .iv
  | some (.iv .nil :: vs) => zs = [] ∧ vs = rets.map .iv
  | _ => False
def endsOC (rs : List ARes) (e sz : Nat) (zs rets : List IV) : AEx → St → Prop
  | .exit _, s => False
  | _, s => vcEndO e sz zs rets s.σ (retVals s rs)
def nilRes (rets : List IV) : TV := oneOrTup (.iv .nil :: rets.map .iv)
theorem OC.ofAmong {P : Program} {f : FuncId} {ys zs rets : List IV} {e sz : Nat} (h : GC P f (ys.map .iv) [] fun r σ => (∃ k m, r = ownRes k m rets ∧ lk σ k = some (m, .list e sz zs)) ∨ (zs = [] ∧ r = nilRes rets)) : OC P f ys e sz zs rets := by
  intro K w vs hs hsz hr
  refine (h K w vs hs hsz hr).mono ?_
  rintro e' w' ⟨v, rfl, K', r, σ', ⟨k, m, rfl, hk⟩ | ⟨rfl, rfl⟩, h1, h2, h3⟩
  rotate_left
  · refine ⟨v, rfl, ⟨K'.I, fun _ _ => .slice none 0 0, fun k => if k = 0 then 1 else 0⟩, ownRes 0 0 rets, [(0, 0, .list e sz [])], ⟨0, rfl, rfl⟩, ?_, ?_, ?_⟩
    · have x : ∀ {y : IV} {u : Value}, TRel K' w' (.iv y) u → TRel ⟨K'.I, fun _ _ => .slice none 0 0, fun k => if k = 0 then 1 else 0⟩ w' (.iv y) u := by
        intro y u hu
        cases hu with
        | iv _ _ hu => exact .iv _ _ hu
      have l : ∀ {u : Value}, TRel K' w' (.iv .nil) u → TRel ⟨K'.I, fun _ _ => .slice none 0 0, fun k => if k = 0 then 1 else 0⟩ w' (.lst 0 0) u := by
        intro u hu
        cases hu with
        | iv _ _ hu =>
          cases hu
          exact .lst 0 0 (by simp)
      cases rets with
      | nil => exact l h1
      | cons r rs =>
        cases h1 with
        | tup _ us hn' hr =>
          refine .tup _ us (by simpa using hn') ?_
          intro q c u hc hu
          cases q with
          | zero =>
            simp at hc; subst hc
            exact l (hr 0 _ u rfl hu)
          | succ q =>
            simp only [List.getElem?_cons_succ, List.getElem?_map, Option.map_eq_some_iff] at hc
            obtain ⟨y, hy, rfl⟩ := hc
            exact x (hr (q + 1) (.iv y) u (by simp only [List.getElem?_cons_succ, List.getElem?_map, hy, Option.map_some]) hu)
    · have no : ∀ b, ¬ Owned ⟨K'.I, fun _ _ => .slice none 0 0, fun k => if k = 0 then 1 else 0⟩ [(0, 0, .list e sz [])] b := by
        rintro b ⟨k', n', it, h4, h5⟩
        simp only [lk] at h4
        split at h4
        · injection h4 with h4; injection h4 with h4 h6; subst h6; simp [own, Value.ownBlock] at h5
        · cases h4
      refine ⟨?_, ?_, ?_, fun b hb => (no b hb).elim, h2.old⟩
      · intro k' n' it h4
        simp only [lk] at h4
        split at h4
        · rename_i e1; subst e1
          injection h4 with h4; injection h4 with h4 h6; subst h4; subst h6
          exact ⟨by simp, [], World.ownsRow_nil _ _ _ _, by simp, fun q c u hq => by simp [flat] at hq⟩
        · cases h4
      · intro k' h4
        simp only [lk] at h4
        split at h4
        · cases h4
        · rename_i hne; simp [Ne.symm hne]
      · intro k1 k2 n1 n2 i1 i2 b h4 h5 h6 h7
        exact (no b ⟨k1, n1, i1, h4, h6⟩).elim
    · refine ⟨⟨h3.le.1, fun k' => ?_⟩, h3.os, h3.tape, h3.output, h3.size, h3.rest, h3.newI, ?_⟩
      · have h0 : K.V k' = 0 := hs.free k' rfl
        exact ⟨by omega, fun n hn => by omega⟩
      · rintro b ⟨k', n', it, h4, h5⟩
        simp only [lk] at h4
        split at h4
        · injection h4 with h4; injection h4 with h4 h6; subst h6; simp [own, Value.ownBlock] at h5
        · cases h4
  have hV : m < K'.V k := by rw [(h2.rel k m _ hk).1]; omega
  refine ⟨v, rfl, lendK K' k m, ownRes 0 0 rets, [(0, 0, .list e sz zs)], ⟨0, rfl, rfl⟩, ?_, h2.lend hk, ?_⟩
  · have l : ∀ {u : Value}, TRel K' w' (.lst k m) u → TRel (lendK K' k m) w' (.lst 0 0) u := by
      intro u hu
      have : u = (lendK K' k m).A 0 0 := by cases hu; simp [lendK]
      rw [this]
      exact .lst 0 0 (by simp [lendK])
    have x : ∀ {y : IV} {u : Value}, TRel K' w' (.iv y) u → TRel (lendK K' k m) w' (.iv y) u := by
      intro y u hu
      cases hu with
      | iv _ _ hu => exact .iv _ _ hu
    cases rets with
    | nil => exact l h1
    | cons r rs =>
      cases h1 with
      | tup _ us hn' hr =>
        refine .tup _ us (by simpa using hn') ?_
        intro q c u hc hu
        cases q with
        | zero =>
          simp at hc; subst hc
          exact l (hr 0 _ u rfl hu)
        | succ q =>
          simp only [List.getElem?_cons_succ, List.getElem?_map, Option.map_eq_some_iff] at hc
          obtain ⟨y, hy, rfl⟩ := hc
          exact x (hr (q + 1) (.iv y) u (by simp only [List.getElem?_cons_succ, List.getElem?_map, hy, Option.map_some]) hu)
  · have back : ∀ b, Owned (lendK K' k m) [(0, 0, .list e sz zs)] b → Owned K' σ' b := fun b hb => ⟨k, m, _, hk, lend_owned hk hb⟩
    refine ⟨⟨h3.le.1, fun k' => ?_⟩, h3.os, h3.tape, h3.output, h3.size, h3.rest, h3.newI, fun b hb => h3.newO b (back b hb)⟩
    have h0 : K.V k' = 0 := hs.free k' rfl
    exact ⟨by omega, fun n hn => by omega⟩
theorem endsOC_is {rs : List ARes} {e sz : Nat} {zs rets : List IV} {x : AEx} {s : St} (h : endsOC rs e sz zs rets x s) : endsIn rs (fun r σ => (∃ k m, r = ownRes k m rets ∧ lk σ k = some (m, .list e sz zs)) ∨ (zs = [] ∧ r = nilRes rets)) x s := by
  have go : ∀ {x : AEx}, x = .ret ∨ x = .normal → vcEndO e sz zs rets s.σ (retVals s rs) → endsIn rs (fun r σ => (∃ k m, r = ownRes k m rets ∧ lk σ k = some (m, .list e sz zs)) ∨ (zs = [] ∧ r = nilRes rets)) x s := by
    intro x hx h
    unfold vcEndO at h
    split at h
    · rename_i k m vs hr
      obtain ⟨h1, rfl⟩ := h
      have : oneOrTup (.lst k m :: rets.map TV.iv) = ownRes k m rets := by cases rets <;> rfl
      rcases hx with rfl | rfl
      · exact endsIn_ret hr (.inl ⟨k, m, this, h1⟩)
      · exact endsIn_normal hr (.inl ⟨k, m, this, h1⟩)
    · rename_i vs hr
      obtain ⟨h1, rfl⟩ := h
      rcases hx with rfl | rfl
      · exact endsIn_ret hr (.inr ⟨h1, rfl⟩)
      · exact endsIn_normal hr (.inr ⟨h1, rfl⟩)
    · exact h.elim
  cases x with
  | exit id => exact h.elim
  | ret => exact go (.inl rfl) h
  | normal => exact go (.inr rfl) h
theorem OC.vc {P : Program} {E : Env} (hE : EnvOk P E) {f : FuncId} {fn : Func} {ch : List (Nat × List Nat)} {af : AFn} {xs zs rets : List IV} {e sz : Nat} (hf : P.funcs[f]? = some fn) (ht : trFn P ch fn = some af) (hn : xs.length ≤ fn.ntmps)
    (h : vc E af.code (endsOC af.res e sz zs rets) { ρ := args0 (xs.map .iv) 0, σ := [] }) : OC P f xs e sz zs rets :=
  .ofAmong (GC.of hf ht (by simpa using hn) (wpc_mono af.code _ _ _ (fun e s h => endsOC_is h) (vc_ok hE _ h)))

/-! ### loops -/
theorem vc_loop {E : Env} {a : ACode} {Q : AEx → St → Prop} {s : St} (I : Nat → St → Prop) (n : Nat) (h0 : I n s) (h : ∀ n s, I n s → vc E a (thenC (fun s' => ∃ n', n' < n ∧ I n' s') Q) s) : vc E (.loop a) Q s :=
  ⟨I, n, ⟨s, .refl s, h0⟩, h⟩
/-- .. with a nil slice of slot 't' taken for an empty list. -/
theorem vc_loopN (t k e sz : Nat) {E : Env} {a : ACode} {Q : AEx → St → Prop} {s : St} (I : Nat → St → Prop) (n : Nat) (ht : lk s.ρ t = some (.iv .nil)) (h0 : I n { ρ := (t, .lst k (nxt s.σ k)) :: s.ρ, σ := upd s.σ k (nxt s.σ k, .list e sz []) })
    (h : ∀ n s, I n s → vc E a (thenC (fun s' => ∃ n', n' < n ∧ I n' s') Q) s) : vc E (.loop a) Q s :=
  ⟨I, n, ⟨_, .nil s _ t k e sz ht (.refl _), h0⟩, h⟩
/-- What simp stops at. -/
def vcLoop (E : Env) (a : ACode) (Q : AEx → St → Prop) (s : St) : Prop := vc E (.loop a) Q s

/-! ### what simp goes by -/
section
variable (E : Env) (Q : AEx → St → Prop) (s : St)
theorem vc_skip : vc E .skip Q s = Q .normal s := rfl
theorem vc_region (is : List AIns) : vc E (.region is) Q s = vcR E (Q .normal) is s := rfl
theorem vc_draw (bd : List Nat) (is : List AIns) : vc E (.draw bd is) Q s = vcDr2 E bd (Q .normal) is s (bd.contains 3000000) (anyRd bd) := rfl
theorem vcDr2_f (bd : List Nat) (K : St → Prop) (is : List AIns) : vcDr2 E bd K is s false false = vcD E bd K 0 is s := rfl
theorem vcDr2_x (bd : List Nat) (K : St → Prop) (is : List AIns) : vcDr2 E bd K is s false true = vcX E bd (xsOf bd) K 0 is s := rfl
theorem vcDr2_y (bd : List Nat) (K : St → Prop) (is : List AIns) (b : Bool) : vcDr2 E bd K is s true b = vcY E (xsOf bd) K is s := rfl
theorem vc_seq (a b : ACode) : vc E (.seq a b) Q s = vc E a (thenC (vc E b Q) Q) s := rfl
theorem vc_block (id : Nat) (a : ACode) : vc E (.block id a) Q s = vc E a (blockC id Q) s := rfl
theorem vc_exit (id : Nat) : vc E (.exit id) Q s = Q (.exit id) s := rfl
theorem vc_scope (a : ACode) : vc E (.scope a) Q s = vc E a Q s := rfl
theorem vc_label : vc E .label Q s = Q .normal s := rfl
theorem vc_ret : vc E .ret Q s = Q .ret s := rfl
theorem vc_ext (N : Nat) (p : Prm) (c : Code) : vc E (.ext N p c) Q s = E.xt N p c Q s := rfl
def vcK (E : Env) (a b : ACode) (Q : AEx → St → Prop) (s : St) (v : Option TV) : Prop := ∃ t, v = some (.iv (.bool t)) ∧ (t = true → vc E a Q s) ∧ (t = false → vc E b Q s)
theorem vc_cond (c : AOpd) (a b : ACode) : vc E (.cond c a b) Q s = vcK E a b Q s (ev s.ρ c) := rfl
theorem vcK_true (a b : ACode) : vcK E a b Q s (some (.iv (.bool true))) = vc E a Q s := by simp [vcK]
theorem vcK_false (a b : ACode) : vcK E a b Q s (some (.iv (.bool false))) = vc E b Q s := by simp [vcK]
theorem vcK_bool (a b : ACode) (t : Bool) : vcK E a b Q s (some (.iv (.bool t))) = ((t = true → vc E a Q s) ∧ (t = false → vc E b Q s)) := by
  apply propext; constructor
  · rintro ⟨t', h, h1⟩; simp at h; subst h; exact h1
  · exact fun h => ⟨t, rfl, h⟩
theorem thenC_normal (next : St → Prop) : thenC next Q .normal s = next s := rfl
theorem thenC_exit (next : St → Prop) (id : Nat) : thenC next Q (.exit id) s = Q (.exit id) s := rfl
theorem thenC_ret (next : St → Prop) : thenC next Q .ret s = Q .ret s := rfl
theorem blockC_normal (id : Nat) : blockC id Q .normal s = Q .normal s := rfl
theorem blockC_exit (id i : Nat) : blockC id Q (.exit i) s = if i = id then Q .normal s else Q (.exit i) s := rfl
theorem blockC_ret (id : Nat) : blockC id Q .ret s = Q .ret s := rfl
end
theorem endsFC_ret (rs : List ARes) (Q : IV → Prop) (s : St) : endsFC rs Q .ret s = vcEnd Q (retOf s rs) := rfl
theorem endsFC_normal (rs : List ARes) (Q : IV → Prop) (s : St) : endsFC rs Q .normal s = vcEnd Q (retOf s rs) := rfl
theorem endsGC_ret (rs : List ARes) (Q : TV → Slots → Prop) (s : St) : endsGC rs Q .ret s = vcEndG Q s.σ (retVals s rs) := rfl
theorem endsGC_normal (rs : List ARes) (Q : TV → Slots → Prop) (s : St) : endsGC rs Q .normal s = vcEndG Q s.σ (retVals s rs) := rfl
theorem vcEndG_some (Q : TV → Slots → Prop) (σ : Slots) (rs : List TV) : vcEndG Q σ (some rs) = Q (oneOrTup rs) σ := rfl
theorem endsOC_ret (rs : List ARes) (e sz : Nat) (zs rets : List IV) (s : St) : endsOC rs e sz zs rets .ret s = vcEndO e sz zs rets s.σ (retVals s rs) := rfl
theorem endsOC_normal (rs : List ARes) (e sz : Nat) (zs rets : List IV) (s : St) : endsOC rs e sz zs rets .normal s = vcEndO e sz zs rets s.σ (retVals s rs) := rfl
section
variable (E : Env) (rest : St → Prop) (s : St) (d : Option Nat)
theorem vcT_ite (c : Prop) [Decidable c] (a b : Option (TV × Slots)) : vcT rest s d (if c then a else b) = ((c → vcT rest s d a) ∧ (¬ c → vcT rest s d b)) := by
  by_cases h : c <;> simp [h]
theorem vcV_ite (c : Prop) [Decidable c] (a b : Option IV) : vcV rest s d (if c then a else b) = ((c → vcV rest s d a) ∧ (¬ c → vcV rest s d b)) := by
  by_cases h : c <;> simp [h]
theorem vcO_ite (c : Prop) [Decidable c] (a b) : vcO rest s d (if c then a else b) = ((c → vcO rest s d a) ∧ (¬ c → vcO rest s d b)) := by
  by_cases h : c <;> simp [h]
theorem vcL_ite (k n e sz : Nat) (c : Prop) [Decidable c] (a b) : vcL rest s d k n e sz (if c then a else b) = ((c → vcL rest s d k n e sz a) ∧ (¬ c → vcL rest s d k n e sz b)) := by
  by_cases h : c <;> simp [h]
end

end Go.Proofs.Ytfmeedphpcjkmaa.Ag
