/- Statements: what a function's code gives without memory is what the model does. Contracts of functions. -/
import Derived.Test.YtdlgenppdgkacaaGreatDoorAgD
set_option linter.unusedVariables false
set_option linter.unusedSimpArgs false
namespace Go.Proofs.YtdlgenppdgkacaaGreatDoor.Ag
open Go.RowKit (Below)

/-! ### contracts -/
/-- A call of 'f' with values that nobody writes: it returns; the result is one of 'Q'; nothing that was there turns. -/
def FC (P : Program) (f : FuncId) (args : List IV) (Q : IV → Prop) : Prop :=
  ∀ (I : Nat → Prop) (w : World) (vs : Array Value), (∀ b, I b → b < w.heap.size) → vs.size = args.length → (∀ (q : Nat) (c : IV) (v : Value), args[q]? = some c → vs[q]? = some v → Rel I w c v) →
    Calls P f vs w fun e w' => ∃ v, e = .returned v ∧ ∃ I' r, Q r ∧ Rel I' w' r v ∧ Below w.heap.size w w' ∧ (∀ b, I b → I' b) ∧ (∀ b, I' b → I b ∨ w.heap.size ≤ b) ∧ (∀ b, I' b → b < w'.heap.size)

theorem FC.mono {P : Program} {f : FuncId} {args : List IV} {Q Q' : IV → Prop} (h : FC P f args Q) (hq : ∀ r, Q r → Q' r) : FC P f args Q' := by
  intro I w vs h1 h2 h3
  refine (h I w vs h1 h2 h3).mono ?_
  rintro e w' ⟨v, rfl, I', r, hr, rest⟩
  exact ⟨v, rfl, I', r, hq r hr, rest⟩

/-- A call of 'f' in a state of places of its caller's: the general contract. The callee's places are its own; those of 'args' are numbered as the callee sees them. 'Q': the result and what the places are. -/
def GC (P : Program) (f : FuncId) (args : List TV) (σ : Slots) (Q : TV → Slots → Prop) : Prop :=
  ∀ (K : Kr) (w : World) (vs : Array Value), SlotsRel K σ w → vs.size = args.length → (∀ (q : Nat) (c : TV) (v : Value), args[q]? = some c → vs[q]? = some v → TRel K w c v) →
    Calls P f vs w fun e w' => ∃ v, e = .returned v ∧ ∃ K' r σ', Q r σ' ∧ TRel K' w' r v ∧ SlotsRel K' σ' w' ∧ Evo K σ w K' σ' w'

/-! ### one operation, within a run -/
/-- What may be said behind an operation. -/
def OpWp (P : Program) (N : Nat) (o : Oper) (s : St) (R : TV → Slots → Prop) : Prop :=
  ∀ (K : Kr) (a : Act) (w : World) (Q : Exit → Act → World → Prop), SRel N K s a w →
    o.wp P a w (fun a1 w1 => ∃ r σ' K' u, a1 = a.put o.dst u ∧ R r σ' ∧ TRel K' w1 r u ∧ SlotsRel K' σ' w1 ∧ Evo K s.σ w K' σ' w1) Q

theorem OpWp.ofOk {P : Program} {N : Nat} {o : Oper} {s : St} {r : TV} {σ' : Slots} (h : OpOk P N o s r σ') : OpWp P N o s (fun r' σ'' => r' = r ∧ σ'' = σ') := by
  intro K a w Q hs
  obtain ⟨n, K', w', u, h1, h2, h3, h4, h5⟩ := h K a w hs
  unfold Oper.wp
  rw [h1]
  rcases h2 with rfl | ⟨rfl, rfl⟩
  · exact ⟨r, σ', K', u, rfl, ⟨rfl, rfl⟩, h3, h4, h5⟩
  · exact ⟨r, σ', K', undef, rfl, ⟨rfl, rfl⟩, h3, h4, h5⟩

/-- The function is one that the call enters. -/
theorem run_callFunc {P : Program} {f : FuncId} (h : callOk P f = true) (args : Array Value) (w : World) : (callFunc f args).run P w = .ok (.enter f args) w := by
  unfold callOk at h
  split at h
  · rename_i fn hf
    simp only [Bool.and_eq_true, Bool.not_eq_true'] at h
    have h1 : fn.body.isNone = false := by cases hb : fn.body with
      | none => simp [hb] at h
      | some c => rfl
    simp only [callFunc, Sem.run_bind, run_program, Result.andThen_ok, hf, h.2, h1, Bool.false_eq_true, if_false, Sem.run_pure]
  · cases h

theorem SlotsRel.afterCall {K : Kr} {σ : Slots} {w w' : World} (hs : SlotsRel K σ w) {I' : Nat → Prop} (hb : Below w.heap.size w w') (h1 : ∀ b, K.I b → I' b) (h2 : ∀ b, I' b → K.I b ∨ w.heap.size ≤ b) (h3 : ∀ b, I' b → b < w'.heap.size) :
    SlotsRel { K with I := I' } σ w' ∧ Evo K σ w { K with I := I' } σ w' := by
  have gr : Grew w w' none := ⟨hb.os, hb.tape, hb.output, hb.size, fun b h _ => hb.block b h⟩
  obtain ⟨f1, f2⟩ := hs.fix gr (fun b => I' b ∧ w.heap.size ≤ b) (fun b h => ⟨h.2, h3 b h.1⟩)
  have e : (fun b => K.I b ∨ (I' b ∧ w.heap.size ≤ b)) = I' := by
    funext b
    apply propext
    constructor
    · rintro (h | h)
      · exact h1 b h
      · exact h.1
    · intro h
      rcases h2 b h with h' | h'
      · exact .inl h'
      · exact .inr ⟨h, h'⟩
  rw [e] at f1 f2
  exact ⟨f1, f2⟩

/-- A call by a contract over values. -/
theorem OpWp.call {P : Program} {N : Nat} {s : St} {d : Option Tmp} {ty : TypeId} {ps : String} {af : Array Edge} {g : Option (Nat × Bool)} {f : FuncId} {args : Array Operand} {tys : Array TypeId} {as_ : List AOpd} {vs : List TV} {xs : List IV} {σ' : Slots} {Q : IV → Prop}
    (hf : callOk P f = true) (tr : args.toList.mapM trOpd = some as_) (hv : evAll s.ρ as_ = some vs) (hsh : shutAll vs s.σ = some (xs, σ')) (hc : FC P f xs Q) :
    OpWp P N ⟨d, .call { callee := .value (.func f), args := args, argTypes := tys }, ty, ps, af, g⟩ s (fun r σ'' => (∃ x, r = .iv x ∧ Q x) ∧ σ'' = σ') := by
  intro K a w Q' hs
  obtain ⟨e1, e2⟩ := evAll_rel hs args.toList as_ vs tr hv
  have hsz : (args.map a.eval).size = vs.length := by simp [e1]
  obtain ⟨K1, h1, h2, h3, h4⟩ := shutAll_ok vs (vs := args.map a.eval) hs.slots hsz (fun q c v hc hv => e2 q c v hc (by simpa using hv)) hsh
  have hrun : (execOp a.eval ⟨d, .call { callee := .value (.func f), args := args, argTypes := tys }, ty, ps, af, g⟩).run P w = .ok (.enter f (args.map a.eval)) w := by
    simp [execOp, resolve, Act.eval, Deferred.ofValue, invoke, run_callFunc hf]
  unfold Oper.wp
  rw [hrun]
  show Calls P f (args.map a.eval) w _
  refine (hc K1.I w (args.map a.eval) h1.old (by rw [hsz, h3]) h4).mono ?_
  rintro e w' ⟨v, rfl, I', r, hr, hrel, hb, i1, i2, i3⟩
  obtain ⟨f1, f2⟩ := h1.afterCall hb i1 i2 i3
  exact ⟨.iv r, σ', _, v, rfl, ⟨⟨r, rfl, hr⟩, rfl⟩, .iv _ _ hrel, f1, h2.trans f2⟩

/-- A call of a function value that is known. -/
theorem OpWp.callv {P : Program} {N : Nat} {s : St} {d : Option Tmp} {ty : TypeId} {ps : String} {af : Array Edge} {g : Option (Nat × Bool)} {fo : Operand} {f' : AOpd} {f : FuncId} {fs cs : List IV} {args : Array Operand} {tys : Array TypeId} {as_ : List AOpd} {vs : List TV} {xs : List IV} {σ' : Slots} {Q : IV → Prop}
    (hf : callOk P f = true) (hfo : ∀ k, fo ≠ .func k) (trf : trOpd fo = some f') (hfv : ev s.ρ f' = some (.iv (.fn (.func f) fs cs))) (tr : args.toList.mapM trOpd = some as_) (hv : evAll s.ρ as_ = some vs) (hsh : shutAll vs s.σ = some (xs, σ')) (hc : FC P f (fs ++ xs ++ cs) Q) :
    OpWp P N ⟨d, .call { callee := .value fo, args := args, argTypes := tys }, ty, ps, af, g⟩ s (fun r σ'' => (∃ x, r = .iv x ∧ Q x) ∧ σ'' = σ') := by
  intro K a w Q' hs
  obtain ⟨e1, e2⟩ := evAll_rel hs args.toList as_ vs tr hv
  have hsz : (args.map a.eval).size = vs.length := by simp [e1]
  have hfr := ev_rel hs trf hfv
  obtain ⟨K1, h1, h2, h3, h4⟩ := shutAll_ok vs (vs := args.map a.eval) hs.slots hsz (fun q c v hc hv => e2 q c v hc (by simpa using hv)) hsh
  cases hfr with
  | iv _ _ hfr =>
  generalize hcv : a.eval fo = cv at hfr
  cases hfr with
  | fn _ _ _ vf vc hvf hvc hrf hrc =>
  have hrun : (execOp a.eval ⟨d, .call { callee := .value fo, args := args, argTypes := tys }, ty, ps, af, g⟩).run P w = .ok (.enter f (vf ++ args.map a.eval ++ vc)) w := by
    simp [execOp, resolve, hcv, Deferred.ofValue, invoke, run_callFunc hf]
  unfold Oper.wp
  rw [hrun]
  show Calls P f (vf ++ args.map a.eval ++ vc) w _
  refine (hc K1.I w _ h1.old (by simp [hvf, hvc, h3, e1]) ?_).mono ?_
  · intro q c v hc hv
    rw [List.append_assoc] at hc
    by_cases hq : q < fs.length
    · rw [List.getElem?_append_left hq] at hc
      rw [Array.append_assoc, Array.getElem?_append_left (by omega)] at hv
      exact (hrf q c v hc hv).stays h2.le.1
    · rw [List.getElem?_append_right (by omega)] at hc
      rw [Array.append_assoc, Array.getElem?_append_right (by omega), hvf] at hv
      by_cases hq2 : q - fs.length < xs.length
      · rw [List.getElem?_append_left hq2] at hc
        rw [Array.getElem?_append_left (by rw [hsz, ← h3]; exact hq2)] at hv
        exact h4 _ c v hc hv
      · rw [List.getElem?_append_right (by omega)] at hc
        rw [Array.getElem?_append_right (by rw [hsz, ← h3]; omega), hsz, ← h3] at hv
        exact (hrc _ c v hc hv).stays h2.le.1
  · rintro e w' ⟨v, rfl, I', r, hr, hrel, hb, i1, i2, i3⟩
    obtain ⟨f1, f2⟩ := h1.afterCall hb i1 i2 i3
    exact ⟨.iv r, σ', _, v, rfl, ⟨⟨r, rfl, hr⟩, rfl⟩, .iv _ _ hrel, f1, h2.trans f2⟩

theorem put_defers (a : Act) (d : Option Nat) (v : Value) : (a.put d v).defers = a.defers := by cases d <;> rfl
theorem St.put_σ (s : St) (d : Option Nat) (v : TV) : (s.put d v).σ = s.σ := by cases d <;> rfl

/-! ### regions -/
structure AIns where
  dst : Option Nat
  guard : Option (Nat × Bool)
  op : AOp

def dstOk (N : Nat) : Option Nat → Bool
  | some d => decide (d < N)
  | none => true
def trIns (P : Program) (N : Nat) (ops : Array Oper) (ch : Nat) (o : Oper) : Option AIns :=
  if dstOk N o.dst then
    match trOp P ch o with
    | some ao => if callIn P ao then
        match o.guard with
        | none => some ⟨o.dst, Option.none, ao⟩
        | some (j, want) => match (ops[j]?).bind (·.dst) with
          | some t => some ⟨o.dst, some (t, want), ao⟩
          | none => none
      else none
    | none => none
  else none
/-- The translation of a region's operations; 'ch': a choice an operation (0 where the list has ended). -/
def trAll (P : Program) (N : Nat) (ops : Array Oper) : List Nat → List Oper → Option (List AIns)
  | _, [] => some []
  | ch, o :: l => match trIns P N ops (ch.headD 0) o, trAll P N ops ch.tail l with
    | some i, some r => some (i :: r)
    | _, _ => none

/-! ### a list that is lent to a call -/
def lendK (K : Kr) (k n : Nat) : Kr := ⟨K.I, fun k' n' => if k' = 0 ∧ n' = 0 then K.A k n else undef, fun k' => if k' = 0 then 1 else 0⟩
theorem lend_owned {K : Kr} {σ : Slots} {k n e sz : Nat} {xs : List IV} (hk : lk σ k = some (n, .list e sz xs)) {b : Nat} (h : Owned (lendK K k n) [(0, 0, .list e sz xs)] b) : own (.list e sz xs) (K.A k n) = some b := by
  obtain ⟨k', n', it, h1, h2⟩ := h
  simp only [lk] at h1
  split at h1
  · rename_i e1; subst e1
    injection h1 with h1; injection h1 with h1 h3; subst h1; subst h3
    simpa [lendK] using h2
  · cases h1
theorem SlotsRel.lend {K : Kr} {σ : Slots} {w : World} (hs : SlotsRel K σ w) {k n e sz : Nat} {xs : List IV} (hk : lk σ k = some (n, .list e sz xs)) : SlotsRel (lendK K k n) [(0, 0, .list e sz xs)] w := by
  have one : ∀ {k' n' : Nat} {it : Item}, lk [(0, 0, Item.list e sz xs)] k' = some (n', it) → k' = 0 ∧ n' = 0 ∧ it = .list e sz xs := by
    intro k' n' it h
    simp only [lk] at h
    split at h
    · rename_i e1; subst e1; injection h with h; injection h with h1 h2; exact ⟨rfl, h1.symm, h2.symm⟩
    · cases h
  refine ⟨?_, ?_, ?_, ?_, hs.old⟩
  · intro k' n' it h
    obtain ⟨rfl, rfl, rfl⟩ := one h
    refine ⟨rfl, ?_⟩
    have := (hs.rel k n _ hk).2
    simpa [lendK, IRel] using this
  · intro k' h
    simp only [lk] at h
    split at h
    · cases h
    · rename_i hne; simp [lendK, Ne.symm hne]
  · intro k1 k2 n1 n2 i1 i2 b h1 h2 _ _
    rw [(one h1).1, (one h2).1]
  · intro b hb
    exact hs.imm b ⟨k, n, _, hk, lend_owned hk hb⟩
theorem SlotsRel.back {K K1 : Kr} {σ : Slots} {w w' : World} (hs : SlotsRel K σ w) {k n m e sz : Nat} {xs zs : List IV} (hk : lk σ k = some (n, .list e sz xs))
    (h1 : SlotsRel K1 [(0, m, .list e sz zs)] w') (ev : Evo (lendK K k n) [(0, 0, .list e sz xs)] w K1 [(0, m, .list e sz zs)] w') :
    ∃ K2, SlotsRel K2 (upd σ k (n + 1, .list e sz zs)) w' ∧ K2.A k (n + 1) = K1.A 0 m ∧ n + 1 < K2.V k ∧ Evo K σ w K2 (upd σ k (n + 1, .list e sz zs)) w' := by
  have hV := (hs.rel k n _ hk).1
  have oth : ∀ {b : Nat}, Owned K1 [(0, m, .list e sz zs)] b → own (.list e sz xs) (K.A k n) = some b ∨ w.heap.size ≤ b := by
    intro b hb
    rcases ev.newO b hb with h | h
    · exact .inl (lend_owned hk h)
    · exact .inr h
  have mine : ∀ {b : Nat}, own (.list e sz zs) (K1.A 0 m) = some b → Owned K1 [(0, m, .list e sz zs)] b := fun h => ⟨0, m, _, by simp [lk], h⟩
  refine ⟨⟨K1.I, fun k' n' => if k' = k ∧ n' = n + 1 then K1.A 0 m else K.A k' n', fun k' => if k' = k then n + 2 else K.V k'⟩, ?_, by simp, by simp, ?_⟩
  rotate_left
  · refine ⟨⟨ev.le.1, ?_⟩, ev.os, ev.tape, ev.output, ev.size, ?_, ?_, ?_⟩
    · intro k'
      by_cases hkk : k' = k
      · subst hkk
        refine ⟨by simp [hV], fun n' hn => ?_⟩
        have : n' ≠ n + 1 := by omega
        simp [this]
      · refine ⟨by simp [hkk], fun n' hn => ?_⟩
        simp [hkk]
    · intro b hb hn
      exact ev.rest b hb fun ho => hn ⟨k, n, _, hk, lend_owned hk ho⟩
    · intro b hb
      rcases ev.newI b hb with h | h | h
      · exact .inl h
      · exact .inr (.inl ⟨k, n, _, hk, lend_owned hk h⟩)
      · exact .inr (.inr h)
    · rintro b ⟨k', n', it, h2, h3⟩
      rw [lk_upd] at h2
      split at h2
      · rename_i e1; subst e1
        injection h2 with h2; injection h2 with h2 h4; subst h2; subst h4
        simp only [and_self, if_true] at h3
        rcases oth (mine h3) with h | h
        · exact .inl ⟨k, n, _, hk, h⟩
        · exact .inr h
      · rename_i hne
        have : ¬ (k' = k ∧ n' = n + 1) := fun h => hne h.1.symm
        simp only [if_neg this] at h3
        exact .inl ⟨k', n', it, h2, h3⟩
  have le : K.Le w ⟨K1.I, fun k' n' => if k' = k ∧ n' = n + 1 then K1.A 0 m else K.A k' n', fun k' => if k' = k then n + 2 else K.V k'⟩ w' := by
    refine ⟨ev.le.1, fun k' => ?_⟩
    by_cases hkk : k' = k
    · subst hkk
      refine ⟨by simp [hV], fun n' hn => ?_⟩
      have : n' ≠ n + 1 := by omega
      simp [this]
    · exact ⟨by simp [hkk], fun n' hn => by simp [hkk]⟩
  refine ⟨?_, ?_, ?_, ?_, h1.old⟩
  · intro k' n' it h2
    rw [lk_upd] at h2
    split at h2
    · rename_i e1; subst e1
      injection h2 with h2; injection h2 with h2 h4; subst h2; subst h4
      refine ⟨by simp, ?_⟩
      have := (h1.rel 0 m (.list e sz zs) (by simp [lk])).2
      simpa [IRel] using this
    · rename_i hne
      have hne' : k' ≠ k := Ne.symm hne
      obtain ⟨g1, g2⟩ := hs.rel k' n' it h2
      refine ⟨by simp [hne', g1], ?_⟩
      simp only [hne', false_and, if_false]
      refine IRel.mono le ?_ g2
      intro b hb
      refine ev.rest b (hs.imm b ⟨k', n', it, h2, hb⟩).2 fun ho => ?_
      exact hne (hs.apart k k' n n' _ _ b hk h2 (lend_owned hk ho) hb)
  · intro k' h2
    rw [lk_upd] at h2
    split at h2
    · cases h2
    · rename_i hne
      simp [Ne.symm hne, hs.free k' h2]
  · intro k1 k2 n1 n2 i1 i2 b h2 h3 h4 h5
    have cross : ∀ {k2 n2 : Nat} {i2 : Item}, k ≠ k2 → lk σ k2 = some (n2, i2) → own i2 (K.A k2 n2) = some b → own (.list e sz zs) (K1.A 0 m) = some b → False := by
      intro k2 n2 i2 hne g1 g2 g3
      rcases oth (mine g3) with h | h
      · exact hne (hs.apart k k2 n n2 _ _ b hk g1 h g2)
      · have := (hs.imm b ⟨k2, n2, i2, g1, g2⟩).2; omega
    rw [lk_upd] at h2 h3
    split at h2
    · rename_i e1; subst e1
      injection h2 with h2; injection h2 with h2 h6; subst h2; subst h6
      split at h3
      · assumption
      · rename_i hne
        simp only [and_self, if_true] at h4
        simp only [Ne.symm hne, false_and, if_false] at h5
        exact (cross hne h3 h5 h4).elim
    · rename_i hne
      simp only [Ne.symm hne, false_and, if_false] at h4
      split at h3
      · rename_i e1; subst e1
        injection h3 with h3; injection h3 with h3 h6; subst h3; subst h6
        simp only [and_self, if_true] at h5
        exact (cross hne h2 h4 h5).elim
      · rename_i hne2
        simp only [Ne.symm hne2, false_and, if_false] at h5
        exact hs.apart k1 k2 n1 n2 i1 i2 b h2 h3 h4 h5
  · rintro b ⟨k', n', it, h2, h3⟩
    rw [lk_upd] at h2
    split at h2
    · rename_i e1; subst e1
      injection h2 with h2; injection h2 with h2 h4; subst h2; subst h4
      simp only [and_self, if_true] at h3
      exact h1.imm b (mine h3)
    · rename_i hne
      simp only [Ne.symm hne, false_and, if_false] at h3
      have g := hs.imm b ⟨k', n', it, h2, h3⟩
      refine ⟨fun hI => ?_, Nat.lt_of_lt_of_le g.2 ev.size⟩
      rcases ev.newI b hI with h | h | h
      · exact g.1 h
      · exact hne (hs.apart k k' n n' _ _ b hk h2 (lend_owned hk h) h3)
      · omega

/-- A function that is given a list of its caller's own, and gives it back longer or otherwise. -/
def LC (P : Program) (f : FuncId) (e sz : Nat) (xs : List IV) (ys : List IV) (Q : List IV → Prop) : Prop :=
  GC P f (.lst 0 0 :: ys.map .iv) [(0, 0, .list e sz xs)] fun r σ => ∃ m zs, r = .lst 0 m ∧ σ = [(0, m, .list e sz zs)] ∧ Q zs

theorem OpWp.callL {P : Program} {N : Nat} {s : St} {d : Option Tmp} {ty : TypeId} {ps : String} {af : Array Edge} {g : Option (Nat × Bool)} {f : FuncId} {args : Array Operand} {tys : Array TypeId} {a0 : AOpd} {as_ : List AOpd} {k n e sz : Nat} {xs : List IV} {vs : List TV} {ys : List IV} {σ1 : Slots} {Q : List IV → Prop}
    (hf : callOk P f = true) (tr : args.toList.mapM trOpd = some (a0 :: as_)) (h0 : ev s.ρ a0 = some (.lst k n)) (h1 : evAll s.ρ as_ = some vs) (h2 : shutAll vs s.σ = some (ys, σ1)) (h3 : lk σ1 k = some (n, .list e sz xs)) (hc : LC P f e sz xs ys Q) :
    OpWp P N ⟨d, .call { callee := .value (.func f), args := args, argTypes := tys }, ty, ps, af, g⟩ s (fun r σ'' => ∃ zs, Q zs ∧ r = .lst k (n + 1) ∧ σ'' = upd σ1 k (n + 1, .list e sz zs)) := by
  intro K a w Q' hs
  obtain ⟨e1, e2⟩ := evAll_rel hs args.toList (a0 :: as_) (.lst k n :: vs) tr (by simp [evAll, h0, h1])
  have hsz : (args.map a.eval).size = vs.length + 1 := by
    have := e1; simp only [List.length_cons, Array.length_toList] at this; simp [← this]
  obtain ⟨u0, us, hu⟩ : ∃ u0 us, (args.map a.eval).toList = u0 :: us := by
    cases hl : (args.map a.eval).toList with
    | nil => rw [← Array.length_toList, hl] at hsz; simp at hsz
    | cons u us => exact ⟨u, us, rfl⟩
  have hget : ∀ q : Nat, (args.map a.eval)[q]? = (u0 :: us)[q]? := by intro q; rw [← Array.getElem?_toList, hu]
  have hul : us.length = vs.length := by
    have := congrArg List.length hu
    simp only [Array.length_toList, List.length_cons] at this
    omega
  have hnx : ∀ (q : Nat) (v : Value), us.toArray[q]? = some v → (args.toList.map a.eval)[q + 1]? = some v := by
    intro q v hv
    have h5 := hget (q + 1)
    have hv' : us[q]? = some v := by simpa using hv
    simp only [List.getElem?_cons_succ, hv'] at h5
    rw [← h5]; simp
  have hr0 : TRel K w (.lst k n) u0 := e2 0 _ u0 rfl (by have := hget 0; simpa using this)
  obtain ⟨K1, g1, g2, g3, g4⟩ := shutAll_ok vs (vs := us.toArray) hs.slots (by simp [hul]) (fun q c v hc hv => e2 (q + 1) c v (by simpa using hc) (hnx q v hv)) h2
  have hr1 : TRel K1 w (.lst k n) u0 := hr0.mono g2.le
  have hu0 : u0 = K1.A k n := by cases hr1; rfl
  have hrun : (execOp a.eval ⟨d, .call { callee := .value (.func f), args := args, argTypes := tys }, ty, ps, af, g⟩).run P w = .ok (.enter f (args.map a.eval)) w := by
    simp [execOp, resolve, Act.eval, Deferred.ofValue, invoke, run_callFunc hf]
  unfold Oper.wp
  rw [hrun]
  show Calls P f (args.map a.eval) w _
  refine (hc (lendK K1 k n) w (args.map a.eval) (g1.lend h3) (by rw [hsz]; simp [g3]) ?_).mono ?_
  · intro q c v hcq hv
    rw [hget] at hv
    cases q with
    | zero =>
      simp only [List.getElem?_cons_zero, Option.some.injEq] at hcq hv
      subst hcq; subst hv
      have := TRel.lst (K := lendK K1 k n) (w := w) 0 0 (by simp [lendK])
      simpa [lendK, hu0] using this
    | succ q =>
      simp only [List.getElem?_cons_succ, List.getElem?_map, Option.map_eq_some_iff] at hcq hv
      obtain ⟨y, hy, rfl⟩ := hcq
      exact .iv _ _ (g4 q y v hy (by simpa using hv))
  · rintro e' w' ⟨v, rfl, K2, r, σ2, ⟨m, zs, rfl, rfl, hQ⟩, hr, hsl, hev⟩
    obtain ⟨K3, f1, f2, f3, f4⟩ := g1.back h3 hsl hev
    refine ⟨.lst k (n + 1), _, K3, v, rfl, ⟨zs, hQ, rfl, rfl⟩, ?_, f1, g2.trans f4⟩
    have hv : v = K2.A 0 m := by cases hr; rfl
    rw [hv, ← f2]
    exact .lst k (n + 1) f3

/-! ### a list that a call gives to its caller -/
def ownRes (k m : Nat) (rets : List IV) : TV :=
  match rets with
  | [] => .lst k m
  | r :: rs => .tup (.lst k m :: (r :: rs).map .iv)
def bareK (K : Kr) : Kr := ⟨K.I, fun _ _ => undef, fun _ => 0⟩
theorem bare_rel {K : Kr} {σ : Slots} {w : World} (hs : SlotsRel K σ w) : SlotsRel (bareK K) [] w :=
  ⟨fun k n it hl => by simp [lk] at hl, fun _ _ => rfl, fun k k' n n' it it' b hl => by simp [lk] at hl, fun b ⟨k, n, it, hl, _⟩ => by simp [lk] at hl, hs.old⟩
theorem bare_owned {K : Kr} {b : Nat} : ¬ Owned K [] b := fun ⟨k, n, it, hl, _⟩ => by simp [lk] at hl
theorem nxt_V {K : Kr} {σ : Slots} {w : World} (hs : SlotsRel K σ w) (k : Nat) : K.V k = nxt σ k := by
  unfold nxt
  cases h : lk σ k with
  | none => exact hs.free k h
  | some p => obtain ⟨n, it⟩ := p; exact (hs.rel k n it h).1
theorem slots_gift {K K1 : Kr} {σ : Slots} {w w' : World} (hs : SlotsRel K σ w) {k m e sz : Nat} {zs : List IV}
    (h1 : SlotsRel K1 [(0, m, .list e sz zs)] w') (ev : Evo (bareK K) [] w K1 [(0, m, .list e sz zs)] w') :
    ∃ K2, SlotsRel K2 (upd σ k (nxt σ k, .list e sz zs)) w' ∧ K2.I = K1.I ∧ K2.A k (nxt σ k) = K1.A 0 m ∧ nxt σ k < K2.V k ∧ Evo K σ w K2 (upd σ k (nxt σ k, .list e sz zs)) w' := by
  have hV := nxt_V hs k
  generalize nxt σ k = n at hV
  have oth : ∀ {b : Nat}, Owned K1 [(0, m, .list e sz zs)] b → w.heap.size ≤ b := by
    intro b hb
    rcases ev.newO b hb with h | h
    · exact (bare_owned h).elim
    · exact h
  have newI : ∀ {b : Nat}, K1.I b → K.I b ∨ w.heap.size ≤ b := by
    intro b hb
    rcases ev.newI b hb with h | h | h
    · exact .inl h
    · exact (bare_owned h).elim
    · exact .inr h
  have mine : ∀ {b : Nat}, own (.list e sz zs) (K1.A 0 m) = some b → Owned K1 [(0, m, .list e sz zs)] b := fun h => ⟨0, m, _, by simp [lk], h⟩
  have le : K.Le w ⟨K1.I, fun k' n' => if k' = k ∧ n' = n then K1.A 0 m else K.A k' n', fun k' => if k' = k then n + 1 else K.V k'⟩ w' := by
    refine ⟨ev.le.1, fun k' => ?_⟩
    by_cases hkk : k' = k
    · subst hkk
      refine ⟨by simp [hV], fun n' hn => ?_⟩
      have : n' ≠ n := by omega
      simp [this]
    · exact ⟨by simp [hkk], fun n' hn => by simp [hkk]⟩
  refine ⟨⟨K1.I, fun k' n' => if k' = k ∧ n' = n then K1.A 0 m else K.A k' n', fun k' => if k' = k then n + 1 else K.V k'⟩, ?_, rfl, by simp, by simp, ?_⟩
  rotate_left
  · refine ⟨le, ev.os, ev.tape, ev.output, ev.size, ?_, ?_, ?_⟩
    · intro b hb hn
      exact ev.rest b hb bare_owned
    · intro b hb
      rcases newI hb with h | h
      · exact .inl h
      · exact .inr (.inr h)
    · rintro b ⟨k', n', it, h2, h3⟩
      rw [lk_upd] at h2
      split at h2
      · rename_i e1; subst e1
        injection h2 with h2; injection h2 with h2 h4; subst h2; subst h4
        simp only [and_self, if_true] at h3
        exact .inr (oth (mine h3))
      · rename_i hne
        have : ¬ (k' = k ∧ n' = n) := fun h => hne h.1.symm
        simp only [if_neg this] at h3
        exact .inl ⟨k', n', it, h2, h3⟩
  refine ⟨?_, ?_, ?_, ?_, h1.old⟩
  · intro k' n' it h2
    rw [lk_upd] at h2
    split at h2
    · rename_i e1; subst e1
      injection h2 with h2; injection h2 with h2 h4; subst h2; subst h4
      refine ⟨by simp, ?_⟩
      have := (h1.rel 0 m (.list e sz zs) (by simp [lk])).2
      simpa [IRel] using this
    · rename_i hne
      have hne' : k' ≠ k := Ne.symm hne
      obtain ⟨g1, g2⟩ := hs.rel k' n' it h2
      refine ⟨by simp [hne', g1], ?_⟩
      simp only [hne', false_and, if_false]
      exact IRel.mono le (fun b hb => ev.rest b (hs.imm b ⟨k', n', it, h2, hb⟩).2 bare_owned) g2
  · intro k' h2
    rw [lk_upd] at h2
    split at h2
    · cases h2
    · rename_i hne
      simp [Ne.symm hne, hs.free k' h2]
  · intro k1 k2 n1 n2 i1 i2 b h2 h3 h4 h5
    have cross : ∀ {k2 n2 : Nat} {i2 : Item}, lk σ k2 = some (n2, i2) → own i2 (K.A k2 n2) = some b → own (.list e sz zs) (K1.A 0 m) = some b → False := by
      intro k2 n2 i2 g1 g2 g3
      have := (hs.imm b ⟨k2, n2, i2, g1, g2⟩).2
      have := oth (mine g3)
      omega
    rw [lk_upd] at h2 h3
    split at h2
    · rename_i e1; subst e1
      injection h2 with h2; injection h2 with h2 h6; subst h2; subst h6
      split at h3
      · assumption
      · rename_i hne
        simp only [and_self, if_true] at h4
        simp only [Ne.symm hne, false_and, if_false] at h5
        exact (cross h3 h5 h4).elim
    · rename_i hne
      simp only [Ne.symm hne, false_and, if_false] at h4
      split at h3
      · rename_i e1; subst e1
        injection h3 with h3; injection h3 with h3 h6; subst h3; subst h6
        simp only [and_self, if_true] at h5
        exact (cross h2 h4 h5).elim
      · rename_i hne2
        simp only [Ne.symm hne2, false_and, if_false] at h5
        exact hs.apart k1 k2 n1 n2 i1 i2 b h2 h3 h4 h5
  · rintro b ⟨k', n', it, h2, h3⟩
    rw [lk_upd] at h2
    split at h2
    · rename_i e1; subst e1
      injection h2 with h2; injection h2 with h2 h4; subst h2; subst h4
      simp only [and_self, if_true] at h3
      exact h1.imm b (mine h3)
    · rename_i hne
      simp only [Ne.symm hne, false_and, if_false] at h3
      have g := hs.imm b ⟨k', n', it, h2, h3⟩
      refine ⟨fun hI => ?_, Nat.lt_of_lt_of_le g.2 ev.size⟩
      rcases newI hI with h | h
      · exact g.1 h
      · omega

/-- A function that gives its caller a list that is the caller's own from then on, and values beside it. -/
def OC (P : Program) (f : FuncId) (ys : List IV) (e sz : Nat) (zs rets : List IV) : Prop :=
  GC P f (ys.map .iv) [] fun r σ => ∃ m, r = ownRes 0 m rets ∧ σ = [(0, m, .list e sz zs)]

theorem ownRes_rel {K1 K2 : Kr} {w : World} {k m n : Nat} {rets : List IV} {v : Value} (h : TRel K1 w (ownRes 0 m rets) v) (hI : K2.I = K1.I) (hA : K2.A k n = K1.A 0 m) (hn : n < K2.V k) : TRel K2 w (ownRes k n rets) v := by
  have l : ∀ {u : Value}, TRel K1 w (.lst 0 m) u → TRel K2 w (.lst k n) u := by
    intro u hu
    have : u = K1.A 0 m := by cases hu; rfl
    rw [this, ← hA]
    exact .lst k n hn
  have x : ∀ {y : IV} {u : Value}, TRel K1 w (.iv y) u → TRel K2 w (.iv y) u := by
    intro y u hu
    cases hu with
    | iv _ _ hu => exact .iv _ _ (hI ▸ hu)
  cases rets with
  | nil => exact l h
  | cons r rs =>
    cases h with
    | tup _ vs hn' hr =>
      refine .tup _ vs (by simpa using hn') ?_
      intro q c u hc hu
      cases q with
      | zero =>
        simp at hc; subst hc
        exact l (hr 0 _ u rfl hu)
      | succ q =>
        simp only [List.getElem?_cons_succ, List.getElem?_map, Option.map_eq_some_iff] at hc
        obtain ⟨y, hy, rfl⟩ := hc
        exact x (hr (q + 1) (.iv y) u (by simp only [List.getElem?_cons_succ, List.getElem?_map, hy, Option.map_some]) hu)

theorem OpWp.callO {P : Program} {N : Nat} {s : St} {d : Option Tmp} {ty : TypeId} {ps : String} {af : Array Edge} {g : Option (Nat × Bool)} {f : FuncId} {args : Array Operand} {tys : Array TypeId} {as_ : List AOpd} {k e sz : Nat} {vs : List TV} {ys zs rets : List IV} {σ1 : Slots}
    (hf : callOk P f = true) (tr : args.toList.mapM trOpd = some as_) (hv : evAll s.ρ as_ = some vs) (hsh : shutAll vs s.σ = some (ys, σ1)) (hc : OC P f ys e sz zs rets) :
    OpWp P N ⟨d, .call { callee := .value (.func f), args := args, argTypes := tys }, ty, ps, af, g⟩ s (fun r σ'' => r = ownRes k (nxt σ1 k) rets ∧ σ'' = upd σ1 k (nxt σ1 k, .list e sz zs)) := by
  intro K a w Q' hs
  obtain ⟨e1, e2⟩ := evAll_rel hs args.toList as_ vs tr hv
  have hsz : (args.map a.eval).size = vs.length := by simp [e1]
  obtain ⟨K1, h1, h2, h3, h4⟩ := shutAll_ok vs (vs := args.map a.eval) hs.slots hsz (fun q c v hc hv => e2 q c v hc (by simpa using hv)) hsh
  have hrun : (execOp a.eval ⟨d, .call { callee := .value (.func f), args := args, argTypes := tys }, ty, ps, af, g⟩).run P w = .ok (.enter f (args.map a.eval)) w := by
    simp [execOp, resolve, Act.eval, Deferred.ofValue, invoke, run_callFunc hf]
  unfold Oper.wp
  rw [hrun]
  show Calls P f (args.map a.eval) w _
  refine (hc (bareK K1) w (args.map a.eval) (bare_rel h1) (by rw [hsz]; simp [h3]) ?_).mono ?_
  · intro q c v hcq hv
    simp only [List.getElem?_map, Option.map_eq_some_iff] at hcq
    obtain ⟨y, hy, rfl⟩ := hcq
    exact .iv _ _ (h4 q y v hy hv)
  · rintro e' w' ⟨v, rfl, K2, r, σ2, ⟨m, rfl, rfl⟩, hr, hsl, hev⟩
    obtain ⟨K3, f1, f2, f3, f4, f5⟩ := slots_gift (k := k) h1 hsl hev
    exact ⟨_, _, K3, v, rfl, ⟨rfl, rfl⟩, ownRes_rel hr f2 f3 f4, f1, h2.trans f5⟩

/-- The same operation, its memory at place 'k'. -/
def setK (k : Nat) : AOp → AOp
  | .box _ x => .box k x
  | .alloc _ zs => .alloc k zs
  | .app _ e sz bytes x y => .app k e sz bytes x y
  | .mks _ e sz bytes y x c => .mks k e sz bytes y x c
  | .blist _ e sz => .blist k e sz
  | .blit _ e sz xs => .blit k e sz xs
  | .mkmap _ kd => .mkmap k kd
  | .slcT _ sz x lo => .slcT k sz x lo
  | o => o
theorem trOp0_setK {P : Program} {ch : Nat} {o : Oper} {ao : AOp} (k : Nat) (h : trOp0 P ch o = some ao) : ∃ ch', (ch' = ch ∨ ((∀ t x lo hi mx, o.op ≠ .slice t x lo hi mx) ∧ (ch' ≠ 906 ∨ ∀ c, o.op ≠ .call c))) ∧ trOp0 P ch' o = some (setK k ao) := by
  obtain ⟨d, op, ty, ps, af, g⟩ := o
  cases op
  case box e x =>
    cases ch with
    | zero => refine ⟨0, .inl rfl, ?_⟩; simp only [trOp0] at h ⊢; split at h <;> simp_all [setK]; subst h; rfl
    | succ c => refine ⟨k + 1, .inr ⟨by simp, .inr (by simp)⟩, ?_⟩; simp only [trOp0] at h ⊢; split at h <;> simp_all [setK]; subst h; rfl
  case alloc e =>
    refine ⟨k + 1, .inr ⟨by simp, .inr (by simp)⟩, ?_⟩
    simp only [trOp0] at h ⊢
    split at h
    · split at h
      · simp_all [setK]; subst h; rfl
      · cases h
    · cases h
  case buildSlice t n parts =>
    simp only [trOp0] at h ⊢
    split at h
    · rename_i e hq4
      split at h
      · rename_i i ops hq3 hq2
        split at h
        · rename_i val r hq1 hq
          split at h
          · rename_i h2; injection h with h; subst h; exact ⟨k, .inr ⟨by simp, .inr (by simp)⟩, by rw [if_pos h2]; rfl⟩
          · rename_i h2
            split at h
            · rename_i h1; injection h with h; subst h; simp only [if_neg h2, if_pos h1]
              cases ch with
              | zero => exact ⟨0, .inl rfl, rfl⟩
              | succ c => exact ⟨k + 1, .inr ⟨by simp, .inr (by simp)⟩, rfl⟩
            · cases h
        · cases h
      · cases h
    · cases h
  case slice t x lo hi mx =>
    refine ⟨ch, .inl rfl, ?_⟩
    rw [h]; congr 1
    simp only [trOp0] at h
    repeat' split at h
    all_goals first
      | (cases h; done)
      | (injection h with h; subst h; rfl)
  case call c =>
    refine ⟨unK k, .inr ⟨by simp, .inl (unK_ne k)⟩, ?_⟩
    simp only [trOp0, shK_unK] at h ⊢
    repeat' split at h
    all_goals first
      | (cases h; done)
      | (injection h with h; subst h; simp_all [setK]; done)
      | (injection h with h; subst h; simp_all only [setK]; split <;> rfl)
  all_goals
    refine ⟨k, .inr ⟨by simp, .inr (by simp)⟩, ?_⟩
    simp only [trOp0] at h ⊢
    repeat' split at h
    all_goals first
      | (cases h; done)
      | (injection h with h; subst h; simp_all [setK]; done)
      | (injection h with h; subst h; simp_all only [setK]; split <;> rfl)

theorem trX0_is {P : Program} {ch : Nat} {o : Oper} {ao : AOp} (h : trX0 P ch o = some ao) : (∃ sz x hh, ao = .slcH sz x hh) ∨ (∃ p sz x l, ao = .slcT p sz x l) ∨ (∃ sz y x, ao = .clr sz y x) ∨ (∃ sz x y, ao = .storeS sz x y) ∨ (∃ sz x lo hi mx, ao = .slcL sz x lo hi mx) ∨ (∃ sz x y, ao = .appD sz x y) ∨ (∃ t x, ao = .mkif t x) ∨ (∃ t z x, ao = .tas t z x) ∨ (∃ x, ao = .panicA x) ∨ (∃ ng x, ao = .eqnil ng x) := by
  unfold trX0 at h
  simp only [trX1] at h
  repeat' split at h
  all_goals first
    | (cases h; done)
    | (injection h with h; subst h; exact .inl ⟨_, _, _, rfl⟩)
    | (injection h with h; subst h; exact .inr (.inl ⟨_, _, _, _, rfl⟩))
    | (injection h with h; subst h; exact .inr (.inr (.inl ⟨_, _, _, rfl⟩)))
    | (injection h with h; subst h; exact .inr (.inr (.inr (.inl ⟨_, _, _, rfl⟩))))
    | (injection h with h; subst h; exact .inr (.inr (.inr (.inr (.inl ⟨_, _, _, _, _, rfl⟩)))))
    | (injection h with h; subst h; exact .inr (.inr (.inr (.inr (.inr (.inl ⟨_, _, _, rfl⟩))))))
    | (injection h with h; subst h; exact .inr (.inr (.inr (.inr (.inr (.inr (.inl ⟨_, _, rfl⟩)))))))
    | (injection h with h; subst h; exact .inr (.inr (.inr (.inr (.inr (.inr (.inr (.inl ⟨_, _, _, rfl⟩))))))))
    | (injection h with h; subst h; exact .inr (.inr (.inr (.inr (.inr (.inr (.inr (.inr (.inl ⟨_, rfl⟩)))))))))
    | (injection h with h; subst h; exact .inr (.inr (.inr (.inr (.inr (.inr (.inr (.inr (.inr ⟨_, _, rfl⟩)))))))))
theorem trX0_none {P : Program} {ch ch' : Nat} {o : Oper} {ao : AOp} (h : trOp0 P ch o = some ao) (hs : ∀ t x lo hi mx, o.op ≠ .slice t x lo hi mx) (hst : ∀ t x y, o.op ≠ .store t x y) (hbin : ∀ op t x y t2, o.op ≠ .binOp op t x y t2) (hcl : ch' ≠ 906 ∨ ∀ c, o.op ≠ .call c) : trX0 P ch' o = none := by
  unfold trX0
  split
  · rename_i h1; exact absurd h1 (hs _ _ _ _ _)
  · rename_i c h1
    split
    · split
      · rename_i x t h2 h3 h4
        simp only [trOp0, h1, h2] at h
        cases h
      · rfl
    · split
      · rename_i h6
        rcases hcl with h7 | h7
        · exact absurd h6 h7
        · exact absurd h1 (h7 _)
      · rfl
  · rename_i h1; simp [trOp0, h1] at h
  · rename_i h1; simp [trOp0, h1] at h
  · rename_i h1; exact absurd h1 (hbin _ _ _ _ _)
  · rename_i h1; simp [trOp0, h1] at h
  · rename_i h1; exact absurd h1 (hst _ _ _)
  · rfl
theorem trX0_slcT {P : Program} {ch p sz : Nat} {o : Oper} {x l : AOpd} (k : Nat) (h : trX0 P ch o = some (.slcT p sz x l)) : trX0 P (1000 + k) o = some (.slcT k sz x l) := by
  obtain ⟨d, op, ty, ps, af, g⟩ := o
  unfold trX0 at h ⊢
  split at h
  · rename_i t x0 lo hi mx hop
    simp only at hop; subst hop
    split at h
    · repeat' split at h
      all_goals first
        | (cases h; done)
        | (injection h with h; cases h; done)
    · rw [if_neg (by omega)]
      unfold trX1 at h ⊢
      split at h
      · repeat' split at h
        all_goals first
          | (cases h; done)
          | (injection h with h; cases h; done)
      · rw [if_pos (by omega)]
        split at h
        · split at h
          · rename_i e he
            split at h
            · rename_i i x' l' h1 h2 h3
              simp only [Option.some.injEq, AOp.slcT.injEq] at h
              obtain ⟨_, h5, h6, h7⟩ := h
              subst h5; subst h6; subst h7
              simp [he, h1, h2, h3]
            · cases h
          · cases h
        · cases h
      · cases h
  · repeat' split at h
    all_goals first
      | (cases h; done)
      | (injection h with h; cases h; done)
  · repeat' split at h
    all_goals first
      | (cases h; done)
      | (injection h with h; cases h; done)
  · repeat' split at h
    all_goals first
      | (cases h; done)
      | (injection h with h; cases h; done)
  · repeat' split at h
    all_goals first
      | (cases h; done)
      | (injection h with h; cases h; done)
  · repeat' split at h
    all_goals first
      | (cases h; done)
      | (injection h with h; cases h; done)
  · repeat' split at h
    all_goals first
      | (cases h; done)
      | (injection h with h; cases h; done)
  · cases h
theorem trOp_cases {P : Program} {ch : Nat} {o : Oper} {ao : AOp} (h : trOp P ch o = some ao) : trOp0 P ch o = some ao ∨ ((∀ f l, ao ≠ .call f l) ∧ (∀ x l, ao ≠ .callv x l)) := by
  unfold trOp at h
  split at h
  · rename_i r hr
    injection h with h; subst h
    rcases trX0_is hr with ⟨_, _, _, rfl⟩ | ⟨_, _, _, _, rfl⟩ | ⟨_, _, _, rfl⟩ | ⟨_, _, _, rfl⟩ | ⟨_, _, _, _, _, rfl⟩ | ⟨_, _, _, rfl⟩ | ⟨_, _, rfl⟩ | ⟨_, _, _, rfl⟩ | ⟨_, rfl⟩ | ⟨_, _, rfl⟩ <;> exact .inr ⟨by simp, by simp⟩
  · split at h
    · rename_i r hr
      split at h
      · injection h with h; subst h; exact .inl hr
      · injection h with h; subst h; exact .inr ⟨by simp, by simp⟩
    · split at h
      · cases h
      · injection h with h; subst h; exact .inr ⟨by simp, by simp⟩
theorem trOp_setK {P : Program} {ch : Nat} {o : Oper} {ao : AOp} (k : Nat) (h : trOp P ch o = some ao) : ∃ ch', trOp P ch' o = some (setK k ao) := by
  have h0 := h
  unfold trOp at h
  split at h
  · rename_i r hr
    injection h with h; subst h
    rcases trX0_is hr with ⟨_, _, _, rfl⟩ | ⟨_, _, _, _, rfl⟩ | ⟨_, _, _, rfl⟩ | ⟨_, _, _, rfl⟩ | ⟨_, _, _, _, _, rfl⟩ | ⟨_, _, _, rfl⟩ | ⟨_, _, rfl⟩ | ⟨_, _, _, rfl⟩ | ⟨_, rfl⟩ | ⟨_, _, rfl⟩
    · exact ⟨ch, h0⟩
    · exact ⟨1000 + k, by simp only [trOp, trX0_slcT k hr]; rfl⟩
    · exact ⟨ch, h0⟩
    · exact ⟨ch, h0⟩
    · exact ⟨ch, h0⟩
    · exact ⟨ch, h0⟩
    · exact ⟨ch, h0⟩
    · exact ⟨ch, h0⟩
    · exact ⟨ch, h0⟩
    · exact ⟨ch, h0⟩
  · rename_i hx
    split at h
    · rename_i r hr
      split at h
      · rename_i hc
        injection h with h; subst h
        by_cases hself : setK k r = r
        · exact ⟨ch, by rw [hself]; exact h0⟩
        have hst' : (∀ t x y, o.op ≠ .store t x y) ∧ ∀ op t x y t2, o.op ≠ .binOp op t x y t2 := by
          refine ⟨fun t x y hop => hself ?_, fun op t x y t2 hop => hself ?_⟩
          · simp only [trOp0, hop] at hr
            repeat' split at hr
            all_goals first
              | (cases hr; done)
              | (injection hr with hr; subst hr; rfl)
          · simp only [trOp0, hop] at hr
            repeat' split at hr
            all_goals first
              | (cases hr; done)
              | (injection hr with hr; subst hr; rfl)
        obtain ⟨ch', h1, h2⟩ := trOp0_setK k hr
        refine ⟨ch', ?_⟩
        have hx' : trX0 P ch' o = none := by
          rcases h1 with rfl | h1
          · exact hx
          · exact trX0_none hr h1.1 hst'.1 hst'.2 h1.2
        have hc' : callIn P (setK k r) = true := by cases r <;> exact hc
        simp only [trOp, hx', h2, hc', if_true]
      · injection h with h; subst h; exact ⟨ch, h0⟩
    · refine ⟨ch, ?_⟩
      split at h
      · cases h
      · injection h with h; subst h; exact h0

/-- A call in its caller's own state of places. -/
theorem OpWp.callG {P : Program} {N : Nat} {s : St} {d : Option Tmp} {ty : TypeId} {ps : String} {af : Array Edge} {g : Option (Nat × Bool)} {f : FuncId} {args : Array Operand} {tys : Array TypeId} {as_ : List AOpd} {vs : List TV} {Q : TV → Slots → Prop}
    (hf : callOk P f = true) (tr : args.toList.mapM trOpd = some as_) (hv : evAll s.ρ as_ = some vs) (hc : GC P f vs s.σ Q) :
    OpWp P N ⟨d, .call { callee := .value (.func f), args := args, argTypes := tys }, ty, ps, af, g⟩ s Q := by
  intro K a w Q' hs
  obtain ⟨e1, e2⟩ := evAll_rel hs args.toList as_ vs tr hv
  have hsz : (args.map a.eval).size = vs.length := by simp [e1]
  have hrun : (execOp a.eval ⟨d, .call { callee := .value (.func f), args := args, argTypes := tys }, ty, ps, af, g⟩).run P w = .ok (.enter f (args.map a.eval)) w := by
    simp [execOp, resolve, Act.eval, Deferred.ofValue, invoke, run_callFunc hf]
  unfold Oper.wp
  rw [hrun]
  show Calls P f (args.map a.eval) w _
  refine (hc K w (args.map a.eval) hs.slots hsz (fun q c v hc hv => e2 q c v hc (by simpa using hv))).mono ?_
  rintro e w' ⟨v, rfl, K', r, σ', hq, hr, hsl, hev⟩
  exact ⟨r, σ', K', v, rfl, hq, hr, hsl, hev⟩

/-- What a function value is. -/
def fnParts : TV → Option (FuncId × List TV × List TV)
  | .iv (.fn (.func f) fs cs) => some (f, fs.map .iv, cs.map .iv)
  | .fn (.func f) fs cs => some (f, fs, cs)
  | _ => none
theorem fnParts_rel {K : Kr} {w : World} {t : TV} {v : Value} {f : FuncId} {fs cs : List TV} (h : fnParts t = some (f, fs, cs)) (hr : TRel K w t v) :
    ∃ vf vc, v = .func (.func f) vf vc ∧ vf.size = fs.length ∧ vc.size = cs.length ∧ (∀ (q : Nat) (c : TV) (u : Value), fs[q]? = some c → vf[q]? = some u → TRel K w c u) ∧
      (∀ (q : Nat) (c : TV) (u : Value), cs[q]? = some c → vc[q]? = some u → TRel K w c u) := by
  have im : ∀ {l : List IV} {a : Array Value}, (∀ (q : Nat) (c : IV) (v : Value), l[q]? = some c → a[q]? = some v → Rel K.I w c v) → ∀ (q : Nat) (c : TV) (u : Value), (l.map TV.iv)[q]? = some c → a[q]? = some u → TRel K w c u := by
    intro l a h q c u hc hu
    simp only [List.getElem?_map, Option.map_eq_some_iff] at hc
    obtain ⟨y, hy, rfl⟩ := hc
    exact .iv _ _ (h q y u hy hu)
  unfold fnParts at h
  split at h
  · simp only [Option.some.injEq, Prod.mk.injEq] at h
    obtain ⟨rfl, rfl, rfl⟩ := h
    cases hr with
    | iv _ _ hr =>
    cases hr with
    | fn _ _ _ vf vc h1 h2 h3 h4 => exact ⟨vf, vc, rfl, by simpa using h1, by simpa using h2, im h3, im h4⟩
  · simp only [Option.some.injEq, Prod.mk.injEq] at h
    obtain ⟨rfl, rfl, rfl⟩ := h
    cases hr with
    | fn _ _ _ vf vc h1 h2 h3 h4 => exact ⟨vf, vc, rfl, h1, h2, h3, h4⟩
  · cases h

theorem OpWp.callvG {P : Program} {N : Nat} {s : St} {d : Option Tmp} {ty : TypeId} {ps : String} {af : Array Edge} {g : Option (Nat × Bool)} {fo : Operand} {f' : AOpd} {f : FuncId} {t : TV} {fs cs : List TV} {args : Array Operand} {tys : Array TypeId} {as_ : List AOpd} {vs : List TV} {Q : TV → Slots → Prop}
    (hf : callOk P f = true) (hfo : ∀ k, fo ≠ .func k) (trf : trOpd fo = some f') (hfv : ev s.ρ f' = some t) (hp : fnParts t = some (f, fs, cs)) (tr : args.toList.mapM trOpd = some as_) (hv : evAll s.ρ as_ = some vs) (hc : GC P f (fs ++ vs ++ cs) s.σ Q) :
    OpWp P N ⟨d, .call { callee := .value fo, args := args, argTypes := tys }, ty, ps, af, g⟩ s Q := by
  intro K a w Q' hs
  obtain ⟨e1, e2⟩ := evAll_rel hs args.toList as_ vs tr hv
  have hsz : (args.map a.eval).size = vs.length := by simp [e1]
  obtain ⟨vf, vc, hcv, hvf, hvc, hrf, hrc⟩ := fnParts_rel hp (ev_rel hs trf hfv)
  have hrun : (execOp a.eval ⟨d, .call { callee := .value fo, args := args, argTypes := tys }, ty, ps, af, g⟩).run P w = .ok (.enter f (vf ++ args.map a.eval ++ vc)) w := by
    simp [execOp, resolve, hcv, Deferred.ofValue, invoke, run_callFunc hf]
  unfold Oper.wp
  rw [hrun]
  show Calls P f (vf ++ args.map a.eval ++ vc) w _
  refine (hc K w _ hs.slots (by simp [hvf, hvc, e1]) ?_).mono ?_
  · intro q c v hc hv
    rw [List.append_assoc] at hc
    by_cases hq : q < fs.length
    · rw [List.getElem?_append_left hq] at hc
      rw [Array.append_assoc, Array.getElem?_append_left (by omega)] at hv
      exact hrf q c v hc hv
    · rw [List.getElem?_append_right (by omega)] at hc
      rw [Array.append_assoc, Array.getElem?_append_right (by omega), hvf] at hv
      by_cases hq2 : q - fs.length < vs.length
      · rw [List.getElem?_append_left hq2] at hc
        rw [Array.getElem?_append_left (by rw [hsz]; exact hq2)] at hv
        exact e2 _ c v hc (by simpa using hv)
      · rw [List.getElem?_append_right (by omega)] at hc
        rw [Array.getElem?_append_right (by rw [hsz]; omega), hsz] at hv
        exact hrc _ c v hc hv
  · rintro e w' ⟨v, rfl, K', r, σ', hq, hr, hsl, hev⟩
    exact ⟨r, σ', K', v, rfl, hq, hr, hsl, hev⟩

mutual
/-- A value without memory's places. -/
def ground : IV → Bool
  | .bool _ => true
  | .int _ _ => true
  | .str _ => true
  | .agg cs => groundAll cs
  | .tup cs => groundAll cs
  | _ => false
def groundAll : List IV → Bool
  | [] => true
  | c :: cs => ground c && groundAll cs
end
theorem groundAll_mem : ∀ {cs : List IV}, groundAll cs = true → ∀ (q : Nat) (c : IV), cs[q]? = some c → ground c = true
  | [], _, q, c, h => by simp at h
  | x :: cs, h, 0, c, hc => by simp [groundAll] at h; simp at hc; subst hc; exact h.1
  | x :: cs, h, q + 1, c, hc => by simp [groundAll] at h; simp at hc; exact groundAll_mem h.2 q c hc
theorem Rel.ground {I I' : Nat → Prop} {w w' : World} {x : IV} {v : Value} (h : Rel I w x v) : Ag.ground x = true → Rel I' w' x v := by
  induction h with
  | bool b => exact fun _ => .bool b
  | int k n => exact fun _ => .int k n
  | str s => exact fun _ => .str s
  | agg cs vs hn ho hr ih => exact fun hg => .agg cs vs hn ho fun q c v hc hv => ih q c v hc hv (groundAll_mem (by simpa [Ag.ground] using hg) q c hc)
  | tup cs vs hn hr ih => exact fun hg => .tup cs vs hn fun q c v hc hv => ih q c v hc hv (groundAll_mem (by simpa [Ag.ground] using hg) q c hc)
  | _ => intro hg; simp [Ag.ground] at hg

/-- A call that reads, and tells what is no memory: nothing turns. -/
theorem OpWp.callP {P : Program} {N : Nat} {s : St} {d : Option Tmp} {ty : TypeId} {ps : String} {af : Array Edge} {g : Option (Nat × Bool)} {f : FuncId} {args : Array Operand} {tys : Array TypeId} {as_ : List AOpd} {vs : List TV} {xs : List IV} {σ' : Slots} {Q : IV → Prop}
    (hf : callOk P f = true) (tr : args.toList.mapM trOpd = some as_) (hv : evAll s.ρ as_ = some vs) (hsh : shutAll vs s.σ = some (xs, σ')) (hc : FC P f xs Q) (hg : ∀ x, Q x → ground x = true) :
    OpWp P N ⟨d, .call { callee := .value (.func f), args := args, argTypes := tys }, ty, ps, af, g⟩ s (fun r σ'' => (∃ x, r = .iv x ∧ Q x) ∧ σ'' = s.σ) := by
  intro K a w Q' hs
  obtain ⟨e1, e2⟩ := evAll_rel hs args.toList as_ vs tr hv
  have hsz : (args.map a.eval).size = vs.length := by simp [e1]
  obtain ⟨K1, h1, h2, h3, h4⟩ := shutAll_ok vs (vs := args.map a.eval) hs.slots hsz (fun q c v hc hv => e2 q c v hc (by simpa using hv)) hsh
  have hrun : (execOp a.eval ⟨d, .call { callee := .value (.func f), args := args, argTypes := tys }, ty, ps, af, g⟩).run P w = .ok (.enter f (args.map a.eval)) w := by
    simp [execOp, resolve, Act.eval, Deferred.ofValue, invoke, run_callFunc hf]
  unfold Oper.wp
  rw [hrun]
  show Calls P f (args.map a.eval) w _
  refine (hc K1.I w (args.map a.eval) h1.old (by rw [hsz, h3]) h4).mono ?_
  rintro e w' ⟨v, rfl, I', r, hr, hrel, hb, i1, i2, i3⟩
  have gr : Grew w w' none := ⟨hb.os, hb.tape, hb.output, hb.size, fun b h _ => hb.block b h⟩
  obtain ⟨f1, f2⟩ := hs.slots.grew gr
  exact ⟨.iv r, s.σ, _, v, rfl, ⟨⟨r, rfl, hr⟩, rfl⟩, .iv _ _ (hrel.ground (hg r hr)), f1, f2⟩

/-- A call in its caller's own state of places, its arguments sealed first. -/
theorem OpWp.callGF {P : Program} {N : Nat} {s : St} {d : Option Tmp} {ty : TypeId} {ps : String} {af : Array Edge} {g : Option (Nat × Bool)} {f : FuncId} {args : Array Operand} {tys : Array TypeId} {as_ : List AOpd} {vs : List TV} {xs : List IV} {σ' : Slots} {Q : TV → Slots → Prop}
    (hf : callOk P f = true) (tr : args.toList.mapM trOpd = some as_) (hv : evAll s.ρ as_ = some vs) (hsh : shutAll vs s.σ = some (xs, σ')) (hc : GC P f (xs.map .iv) σ' Q) :
    OpWp P N ⟨d, .call { callee := .value (.func f), args := args, argTypes := tys }, ty, ps, af, g⟩ s Q := by
  intro K a w Q' hs
  obtain ⟨e1, e2⟩ := evAll_rel hs args.toList as_ vs tr hv
  have hsz : (args.map a.eval).size = vs.length := by simp [e1]
  obtain ⟨K1, h1, h2, h3, h4⟩ := shutAll_ok vs (vs := args.map a.eval) hs.slots hsz (fun q c v hc hv => e2 q c v hc (by simpa using hv)) hsh
  have hrun : (execOp a.eval ⟨d, .call { callee := .value (.func f), args := args, argTypes := tys }, ty, ps, af, g⟩).run P w = .ok (.enter f (args.map a.eval)) w := by
    simp [execOp, resolve, Act.eval, Deferred.ofValue, invoke, run_callFunc hf]
  unfold Oper.wp
  rw [hrun]
  show Calls P f (args.map a.eval) w _
  refine (hc K1 w (args.map a.eval) h1 (by rw [hsz]; simp [h3]) ?_).mono ?_
  · intro q c v hcq hv
    simp only [List.getElem?_map, Option.map_eq_some_iff] at hcq
    obtain ⟨y, hy, rfl⟩ := hcq
    exact .iv _ _ (h4 q y v hy hv)
  · rintro e w' ⟨v, rfl, K', r, σ'', hq, hr, hsl, hev⟩
    exact ⟨r, σ'', K', v, rfl, hq, hr, hsl, h2.trans hev⟩

/-! ### what is sealed already, as a value -/
def allOnes : List TV → Option (List IV)
  | [] => some []
  | .iv x :: l => if x.one = true then (match allOnes l with
    | some xs => some (x :: xs)
    | none => none) else none
  | _ :: _ => none
def thawL (σ : Slots) (k n : Nat) : TV := match lk σ k with
  | some (n', .froz xs) => if n = n' then .iv (.slice xs) else .lst k n
  | _ => .lst k n
def thawA (cs : List TV) : TV := match allOnes cs with
  | some xs => .iv (.agg xs)
  | none => .agg cs
mutual
def thaw (σ : Slots) : TV → TV
  | .lst k n => thawL σ k n
  | .agg cs => thawA (thawAll σ cs)
  | t => t
def thawAll (σ : Slots) : List TV → List TV
  | [] => []
  | c :: cs => thaw σ c :: thawAll σ cs
end
theorem allOnes_inv : ∀ {l : List TV} {xs : List IV}, allOnes l = some xs → l = xs.map .iv ∧ ∀ x ∈ xs, x.one = true
  | [], xs, h => by simp [allOnes] at h; subst h; exact ⟨rfl, by simp⟩
  | .iv x :: l, xs, h => by
    simp only [allOnes] at h
    split at h
    · rename_i h1
      split at h
      · rename_i ys hy
        injection h with h; subst h
        obtain ⟨e1, e2⟩ := allOnes_inv hy
        refine ⟨by simp [e1], fun z hz => ?_⟩
        rcases List.mem_cons.1 hz with rfl | hz
        · exact h1
        · exact e2 z hz
      · cases h
    · cases h
theorem thawAll_get (σ : Slots) : ∀ (l : List TV) (q : Nat), (thawAll σ l)[q]? = (l[q]?).map (thaw σ)
  | [], q => by simp [thawAll]
  | c :: cs, 0 => by simp [thawAll]
  | c :: cs, q + 1 => by simp [thawAll, thawAll_get σ cs q]
theorem thawAll_len (σ : Slots) : ∀ (l : List TV), (thawAll σ l).length = l.length
  | [] => rfl
  | c :: cs => by simp [thawAll, thawAll_len σ cs]
theorem thaw_rel {K : Kr} {σ : Slots} {w : World} (hs : SlotsRel K σ w) {t : TV} {v : Value} (h : TRel K w t v) : TRel K w (thaw σ t) v := by
  induction h with
  | lst k n h =>
    simp only [thaw, thawL]
    split
    · rename_i n' xs hk
      split
      · rename_i e; subst e
        exact .iv _ _ (hs.rel k n _ hk).2
      · exact .lst k n h
    · exact .lst k n h
  | agg cs vs hn ho hr ih =>
    have h1 : TRel K w (.agg (thawAll σ cs)) (.agg vs) := by
      refine .agg _ vs (by rw [thawAll_len]; exact hn) ho fun q c v hc hv => ?_
      rw [thawAll_get] at hc
      obtain ⟨c', hc', rfl⟩ := Option.map_eq_some_iff.1 hc
      exact ih q c' v hc' hv
    simp only [thaw, thawA]
    split
    · rename_i xs hx
      obtain ⟨e1, e2⟩ := allOnes_inv hx
      rw [e1] at h1
      cases h1 with
      | agg _ _ hn' ho' hr' =>
        refine .iv _ _ (.agg xs vs (by simpa using hn') e2 fun q c v hc hv => ?_)
        have := hr' q (.iv c) v (by simp [hc]) hv
        cases this; assumption
    · exact h1
  | iv x v h => exact .iv x v h
  | loc k n off b h hA => exact .loc k n off b h hA
  | el k n sz i off b len cap h hA => exact .el k n sz i off b len cap h hA
  | mp k n h => exact .mp k n h
  | itr k n h => exact .itr k n h
  | sl k n z i j full A len cap c h hA hij hjc hcc hf => exact .sl k n z i j full A len cap c h hA hij hjc hcc hf
  | dead => exact .dead
  | ifb c t v h h' => exact .ifb c t v h h'
  | tup xs vs hn hr => exact .tup xs vs hn hr
  | fn f fs cs vf vc hf hc hrf hrc => exact .fn f fs cs vf vc hf hc hrf hrc
def thawR (σ : Slots) : List (Nat × TV) → List (Nat × TV)
  | [] => []
  | (n, v) :: l => (n, thaw σ v) :: thawR σ l
theorem lk_thawR (σ : Slots) : ∀ (ρ : List (Nat × TV)) (n : Nat), lk (thawR σ ρ) n = (lk ρ n).map (thaw σ)
  | [], n => rfl
  | (m, v) :: l, n => by
    simp only [thawR, lk]
    split
    · rfl
    · exact lk_thawR σ l n
theorem ev_thawR {σ : Slots} {ρ ρ' : List (Nat × TV)} {x : AOpd} (h : ev ρ' x = ev ρ x) : ev (thawR σ ρ') x = ev (thawR σ ρ) x := by
  cases x with
  | c y => rfl
  | t n => simp only [ev] at h ⊢; rw [lk_thawR, lk_thawR, h]
theorem SRel.thaw {N : Nat} {K : Kr} {s : St} {a : Act} {w : World} (h : SRel N K s a w) : SRel N K { s with ρ := thawR s.σ s.ρ } a w := by
  refine ⟨h.size, fun t v hv => ?_, h.slots⟩
  rw [lk_thawR] at hv
  obtain ⟨v', hv', rfl⟩ := Option.map_eq_some_iff.1 hv
  obtain ⟨u, hu, hr⟩ := h.tmps t v' hv'
  exact ⟨u, hu, thaw_rel h.slots hr⟩
theorem OpWp.thaw {P : Program} {N : Nat} {o : Oper} {s : St} {R : TV → Slots → Prop} (h : OpWp P N o { s with ρ := thawR s.σ s.ρ } R) : OpWp P N o s R :=
  fun K a w Q hs => h K a w Q hs.thaw

/-- The operands alone, those held where true is true as they are. -/
def opnR (ρ : List (Nat × TV)) : List AOpd → List (Nat × TV)
  | [] => []
  | .c _ :: l => opnR ρ l
  | .t n :: l => match lk ρ n with
    | some v => (n, unIf v) :: opnR ρ l
    | none => opnR ρ l
theorem lk_opnR {ρ : List (Nat × TV)} : ∀ {l : List AOpd} {n : Nat} {v : TV}, lk (opnR ρ l) n = some v → ∃ u, lk ρ n = some u ∧ v = unIf u
  | [], n, v, h => by simp [opnR, lk] at h
  | .c _ :: l, n, v, h => lk_opnR (l := l) (by simpa [opnR] using h)
  | .t m :: l, n, v, h => by
    simp only [opnR] at h
    split at h
    · rename_i u hu
      simp only [lk] at h
      split at h
      · rename_i e; subst e; injection h with h; exact ⟨u, hu, h.symm⟩
      · exact lk_opnR (l := l) h
    · exact lk_opnR (l := l) h
theorem SRel.opn {N : Nat} {K : Kr} {s : St} {a : Act} {w : World} (l : List AOpd) (h : SRel N K s a w) : SRel N K { s with ρ := opnR s.ρ l } a w := by
  refine ⟨h.size, fun t v hv => ?_, h.slots⟩
  obtain ⟨u, hu, rfl⟩ := lk_opnR hv
  obtain ⟨x, hx, hr⟩ := h.tmps t u hu
  exact ⟨x, hx, unIf_rel hr⟩
theorem OpWp.opn {P : Program} {N : Nat} {o : Oper} {s : St} {R : TV → Slots → Prop} (l : List AOpd) (h : OpWp P N o { s with ρ := opnR s.ρ l } R) : OpWp P N o s R :=
  fun K a w Q hs => h K a w Q (hs.opn l)

/-- One operation of ours: it gives, or it is a call by a contract. -/
inductive Step (P : Program) (s : St) : AOp → (TV → Slots → Prop) → Prop
  | op (ao : AOp) (r : TV) (σ' : Slots) (h : aop s.ρ s.σ ao = some (r, σ')) : Step P s ao (fun r' σ'' => r' = r ∧ σ'' = σ')
  | call (f : FuncId) (as_ : List AOpd) (vs : List TV) (xs : List IV) (σ' : Slots) (Q : IV → Prop) (h1 : evAll s.ρ as_ = some vs) (h2 : shutAll vs s.σ = some (xs, σ')) (h3 : FC P f xs Q) :
      Step P s (.call f as_) (fun r σ'' => (∃ x, r = .iv x ∧ Q x) ∧ σ'' = σ')
  | callv (x : AOpd) (f : FuncId) (fs cs : List IV) (as_ : List AOpd) (vs : List TV) (xs : List IV) (σ' : Slots) (Q : IV → Prop) (h0 : ev s.ρ x = some (.iv (.fn (.func f) fs cs))) (hf : callOk P f = true)
      (h1 : evAll s.ρ as_ = some vs) (h2 : shutAll vs s.σ = some (xs, σ')) (h3 : FC P f (fs ++ xs ++ cs) Q) : Step P s (.callv x as_) (fun r σ'' => (∃ x, r = .iv x ∧ Q x) ∧ σ'' = σ')
  | callL (f : FuncId) (a0 : AOpd) (as_ : List AOpd) (k n e sz : Nat) (xs : List IV) (vs : List TV) (ys : List IV) (σ1 : Slots) (Q : List IV → Prop) (h0 : ev s.ρ a0 = some (.lst k n)) (h1 : evAll s.ρ as_ = some vs) (h2 : shutAll vs s.σ = some (ys, σ1))
      (h3 : lk σ1 k = some (n, .list e sz xs)) (h4 : LC P f e sz xs ys Q) : Step P s (.call f (a0 :: as_)) (fun r σ'' => ∃ zs, Q zs ∧ r = .lst k (n + 1) ∧ σ'' = upd σ1 k (n + 1, .list e sz zs))
  | callO (f : FuncId) (as_ : List AOpd) (k e sz : Nat) (vs : List TV) (ys zs rets : List IV) (σ1 : Slots) (h1 : evAll s.ρ as_ = some vs) (h2 : shutAll vs s.σ = some (ys, σ1)) (h3 : OC P f ys e sz zs rets) :
      Step P s (.call f as_) (fun r σ'' => r = ownRes k (nxt σ1 k) rets ∧ σ'' = upd σ1 k (nxt σ1 k, .list e sz zs))
  | opK (k : Nat) (ao : AOp) (r : TV) (σ' : Slots) (h : aop s.ρ s.σ (setK k ao) = some (r, σ')) : Step P s ao (fun r' σ'' => r' = r ∧ σ'' = σ')
  | callG (f : FuncId) (as_ : List AOpd) (vs : List TV) (Q : TV → Slots → Prop) (h1 : evAll s.ρ as_ = some vs) (h2 : GC P f vs s.σ Q) : Step P s (.call f as_) Q
  | callP (f : FuncId) (as_ : List AOpd) (vs : List TV) (xs : List IV) (σ' : Slots) (Q : IV → Prop) (h1 : evAll s.ρ as_ = some vs) (h2 : shutAll vs s.σ = some (xs, σ')) (h3 : FC P f xs Q) (h4 : ∀ x, Q x → ground x = true) :
      Step P s (.call f as_) (fun r σ'' => (∃ x, r = .iv x ∧ Q x) ∧ σ'' = s.σ)
  | callGF (f : FuncId) (as_ : List AOpd) (vs : List TV) (xs : List IV) (σ' : Slots) (Q : TV → Slots → Prop) (h1 : evAll s.ρ as_ = some vs) (h2 : shutAll vs s.σ = some (xs, σ')) (h3 : GC P f (xs.map .iv) σ' Q) : Step P s (.call f as_) Q
  | callvG (x : AOpd) (f : FuncId) (t : TV) (fs cs : List TV) (as_ : List AOpd) (vs : List TV) (Q : TV → Slots → Prop) (h0 : ev s.ρ x = some t) (hp : fnParts t = some (f, fs, cs)) (hf : callOk P f = true)
      (h1 : evAll s.ρ as_ = some vs) (h2 : GC P f (fs ++ vs ++ cs) s.σ Q) : Step P s (.callv x as_) Q
  | opT (k : Nat) (ao : AOp) (r : TV) (σ' : Slots) (h : aop (thawR s.σ s.ρ) s.σ (setK k ao) = some (r, σ')) : Step P s ao (fun r' σ'' => r' = r ∧ σ'' = σ')
  | opU (l : List AOpd) (ao : AOp) (r : TV) (σ' : Slots) (h : aop (opnR s.ρ l) s.σ ao = some (r, σ')) : Step P s ao (fun r' σ'' => r' = r ∧ σ'' = σ')
  | callT (f : FuncId) (as_ : List AOpd) (vs : List TV) (Q : TV → Slots → Prop) (h1 : evAll (thawR s.σ s.ρ) as_ = some vs) (h2 : GC P f vs s.σ Q) : Step P s (.call f as_) Q

theorem trOp0_call {P : Program} {ch : Nat} {o : Oper} {f : FuncId} {as_ : List AOpd} (h : trOp0 P ch o = some (.call f as_)) :
    ∃ args tys, o.op = .call { callee := .value (.func f), args := args, argTypes := tys } ∧ args.toList.mapM trOpd = some as_ := by
  obtain ⟨d, op, ty, ps, af, g⟩ := o
  cases op
  case makeMap t res =>
    cases res with
    | none =>
      simp only [trOp0] at h
      repeat' split at h
      all_goals first
        | (cases h; done)
        | (injection h with h; cases h; done)
    | some o => simp [trOp0] at h
  all_goals simp only [trOp0] at h
  case call c =>
    obtain ⟨callee, args, argTypes⟩ := c
    simp only at h
    repeat' split at h
    all_goals first
      | (injection h with h; injection h with h1 h2; subst h1; subst h2; exact ⟨args, argTypes, rfl, by assumption⟩)
      | (injection h with h; cases h; done)
      | (cases h; done)
  all_goals (repeat' split at h)
  all_goals first
    | (cases h; done)
    | (injection h with h; cases h; done)
    | (injection h with h; split at h <;> cases h; done)

theorem trOp0_callv {P : Program} {ch : Nat} {o : Oper} {x' : AOpd} {as_ : List AOpd} (h : trOp0 P ch o = some (.callv x' as_)) :
    ∃ x args tys, o.op = .call { callee := .value x, args := args, argTypes := tys } ∧ (∀ k, x ≠ .func k) ∧ trOpd x = some x' ∧ args.toList.mapM trOpd = some as_ := by
  obtain ⟨d, op, ty, ps, af, g⟩ := o
  cases op
  case makeMap t res =>
    cases res with
    | none =>
      simp only [trOp0] at h
      repeat' split at h
      all_goals first
        | (cases h; done)
        | (injection h with h; cases h; done)
    | some o => simp [trOp0] at h
  all_goals simp only [trOp0] at h
  case call c =>
    obtain ⟨callee, args, argTypes⟩ := c
    simp only at h
    split at h
    · repeat' split at h
      all_goals first
        | (cases h; done)
        | (injection h with h; cases h; done)
    · repeat' split at h
      all_goals first
        | (cases h; done)
        | (injection h with h; cases h; done)
    · repeat' split at h
      all_goals first
        | (cases h; done)
        | (injection h with h; cases h; done)
    · repeat' split at h
      all_goals first
        | (cases h; done)
        | (injection h with h; cases h; done)
    · repeat' split at h
      all_goals first
        | (cases h; done)
        | (injection h with h; cases h; done)
    · rename_i x hx
      split at h
      · rename_i y as' hy has
        injection h with h; injection h with h1 h2; subst h1; subst h2
        exact ⟨x, args, argTypes, rfl, fun k e => hx k (by rw [e]), hy, has⟩
      · cases h
    · cases h
  all_goals (repeat' split at h)
  all_goals first
    | (cases h; done)
    | (injection h with h; cases h; done)
    | (injection h with h; split at h <;> cases h; done)

theorem trOp_call {P : Program} {ch : Nat} {o : Oper} {f : FuncId} {as_ : List AOpd} (h : trOp P ch o = some (.call f as_)) :
    ∃ args tys, o.op = .call { callee := .value (.func f), args := args, argTypes := tys } ∧ args.toList.mapM trOpd = some as_ := by
  rcases trOp_cases h with h | h
  · exact trOp0_call h
  · exact absurd rfl (h.1 _ _)
theorem trOp_callv {P : Program} {ch : Nat} {o : Oper} {x' : AOpd} {as_ : List AOpd} (h : trOp P ch o = some (.callv x' as_)) :
    ∃ x args tys, o.op = .call { callee := .value x, args := args, argTypes := tys } ∧ (∀ k, x ≠ .func k) ∧ trOpd x = some x' ∧ args.toList.mapM trOpd = some as_ := by
  rcases trOp_cases h with h | h
  · exact trOp0_callv h
  · exact absurd rfl (h.2 _ _)

theorem Step.wp {P : Program} {N ch : Nat} {o : Oper} {s : St} {ao : AOp} {R : TV → Slots → Prop} (ht : trOp P ch o = some ao) (hcall : ∀ f as_, ao = AOp.call f as_ → callOk P f = true) (h : Step P s ao R) : OpWp P N o s R := by
  cases h with
  | op _ r σ' h => exact .ofOk (aop_ok ht h)
  | call f as_ vs xs σ' Q h1 h2 h3 =>
    obtain ⟨args, tys, e, tr⟩ := trOp_call ht
    obtain ⟨d, op, ty, ps, af, g⟩ := o
    simp only at e; subst e
    exact .call (hcall f as_ rfl) tr h1 h2 h3
  | callv x f fs cs as_ vs xs σ' Q h0 hf h1 h2 h3 =>
    obtain ⟨fo, args, tys, e, hfo, trf, tr⟩ := trOp_callv ht
    obtain ⟨d, op, ty, ps, af, g⟩ := o
    simp only at e; subst e
    exact .callv hf hfo trf h0 tr h1 h2 h3
  | callL f a0 as_ k n e sz xs vs ys σ1 Q h0 h1 h2 h3 h4 =>
    obtain ⟨args, tys, e, tr⟩ := trOp_call ht
    obtain ⟨d, op, ty, ps, af, g⟩ := o
    simp only at e; subst e
    exact .callL (hcall f (a0 :: as_) rfl) tr h0 h1 h2 h3 h4
  | callO f as_ k e sz vs ys zs rets σ1 h1 h2 h3 =>
    obtain ⟨args, tys, e, tr⟩ := trOp_call ht
    obtain ⟨d, op, ty, ps, af, g⟩ := o
    simp only at e; subst e
    exact .callO (hcall f as_ rfl) tr h1 h2 h3
  | opK k ao r σ' h =>
    obtain ⟨ch', ht'⟩ := trOp_setK k ht
    exact .ofOk (aop_ok ht' h)
  | callG f as_ vs Q h1 h2 =>
    obtain ⟨args, tys, e, tr⟩ := trOp_call ht
    obtain ⟨d, op, ty, ps, af, g⟩ := o
    simp only at e; subst e
    exact .callG (hcall f as_ rfl) tr h1 h2
  | callP f as_ vs xs σ' Q h1 h2 h3 h4 =>
    obtain ⟨args, tys, e, tr⟩ := trOp_call ht
    obtain ⟨d, op, ty, ps, af, g⟩ := o
    simp only at e; subst e
    exact .callP (hcall f as_ rfl) tr h1 h2 h3 h4
  | callGF f as_ vs xs σ' Q h1 h2 h3 =>
    obtain ⟨args, tys, e, tr⟩ := trOp_call ht
    obtain ⟨d, op, ty, ps, af, g⟩ := o
    simp only at e; subst e
    exact .callGF (hcall f as_ rfl) tr h1 h2 h3
  | callvG x f t fs cs as_ vs Q h0 hp hf h1 h2 =>
    obtain ⟨fo, args, tys, e, hfo, trf, tr⟩ := trOp_callv ht
    obtain ⟨d, op, ty, ps, af, g⟩ := o
    simp only at e; subst e
    exact .callvG hf hfo trf h0 hp tr h1 h2
  | opT k ao r σ' h =>
    obtain ⟨ch', ht'⟩ := trOp_setK k ht
    exact .thaw (.ofOk (aop_ok ht' h))
  | opU l ao r σ' h => exact .opn l (.ofOk (aop_ok ht h))
  | callT f as_ vs Q h1 h2 =>
    obtain ⟨args, tys, e, tr⟩ := trOp_call ht
    obtain ⟨d, op, ty, ps, af, g⟩ := o
    simp only at e; subst e
    exact .thaw (.callG (hcall f as_ rfl) tr h1 h2)

/-- The operands of an operation that is done where 'c' is true. -/
def gρ (c : Bool) (ρ : List (Nat × TV)) : List AOpd → List (Nat × TV)
  | [] => []
  | .c _ :: l => gρ c ρ l
  | .t n :: l => match lk ρ n with
    | some v => match openV c v with
      | some r => (n, r) :: gρ c ρ l
      | none => gρ c ρ l
    | none => gρ c ρ l
theorem gρ_rel {N : Nat} {K : Kr} {s : St} {a : Act} {w : World} (hs : SRel N K s a w) {c : Bool} (hc : c = true) : ∀ (l : List AOpd) {t : Nat} {v : TV}, lk (gρ c s.ρ l) t = some v → ∃ u, a.tmps[t]? = some u ∧ TRel K w v u
  | [], t, v, h => by simp [gρ, lk] at h
  | .c _ :: l, t, v, h => gρ_rel hs hc l (by simpa [gρ] using h)
  | .t n :: l, t, v, h => by
    simp only [gρ] at h
    split at h
    · rename_i v' hv'
      split at h
      · rename_i r hr
        simp only [lk] at h
        split at h
        · rename_i e; subst e; injection h with h; subst h
          obtain ⟨u, hu, hru⟩ := hs.tmps n v' hv'
          exact ⟨u, hu, openV_rel hr hc hru⟩
        · exact gρ_rel hs hc l h
      · exact gρ_rel hs hc l h
    · exact gρ_rel hs hc l h

/-- What a guard's slot says: is the operation done? -/
def gcond (want : Bool) : TV → Option Bool
  | .iv (.bool b) => some (b == want)
  | .ifb c (.iv (.bool b)) => some (c && (b == want))
  | .dead => some false
  | _ => none
def boolOf : Value → Option Bool
  | .bool b => some b
  | _ => none
theorem gcond_rel {K : Kr} {w : World} {want x : Bool} {v : TV} {u : Value} (h : gcond want v = some x) (r : TRel K w v u) : (boolOf u == some want) = x := by
  unfold gcond at h
  split at h
  · injection h with h; subst h
    cases r with
    | iv _ _ r => cases r; rfl
  · rename_i c b
    injection h with h; subst h
    cases r with
    | ifb _ _ _ h1 h2 =>
      cases c with
      | true =>
        have := h1 rfl
        cases this with
        | iv _ _ r => cases r; simp [boolOf]
      | false => have := h2 rfl; subst this; cases want <;> rfl
  · injection h with h; subst h
    cases r; cases want <;> rfl
  · cases h
/-- .. what it knows of a value. -/
def gopen (want : Bool) (g v : TV) : Option TV :=
  match g with
  | .iv (.bool b) => openV (b == want) v
  | .ifb c (.iv (.bool b)) => match openV c v with
    | some v' => openV (b == want) v'
    | none => none
  | _ => none
def gwrap (want : Bool) (g r : TV) : TV :=
  match g with
  | .iv (.bool b) => .ifb (b == want) r
  | .ifb c (.iv (.bool b)) => .ifb c (.ifb (b == want) r)
  | _ => .dead
def gρ2 (want : Bool) (g : TV) (ρ : List (Nat × TV)) : List AOpd → List (Nat × TV)
  | [] => []
  | .c _ :: l => gρ2 want g ρ l
  | .t n :: l => match lk ρ n with
    | some v => match gopen want g v with
      | some r => (n, r) :: gρ2 want g ρ l
      | none => gρ2 want g ρ l
    | none => gρ2 want g ρ l
theorem gρ2_bool (want b : Bool) (ρ : List (Nat × TV)) : ∀ l, gρ2 want (.iv (.bool b)) ρ l = gρ (b == want) ρ l
  | [] => rfl
  | .c _ :: l => by simp only [gρ2, gρ, gρ2_bool want b ρ l]
  | .t n :: l => by simp only [gρ2, gρ, gopen, gρ2_bool want b ρ l]
theorem gopen_rel {K : Kr} {w : World} {want : Bool} {g v r : TV} {u : Value} (h : gopen want g v = some r) (hc : gcond want g = some true) (hr : TRel K w v u) : TRel K w r u := by
  unfold gopen at h
  split at h
  · simp only [gcond, Option.some.injEq] at hc
    exact openV_rel h hc hr
  · simp only [gcond, Option.some.injEq, Bool.and_eq_true] at hc
    split at h
    · rename_i v' hv'
      exact openV_rel h hc.2 (openV_rel hv' hc.1 hr)
    · cases h
  · cases h
theorem gρ2_rel {N : Nat} {K : Kr} {s : St} {a : Act} {w : World} (hs : SRel N K s a w) {want : Bool} {g : TV} (hc : gcond want g = some true) : ∀ (l : List AOpd) {t : Nat} {v : TV}, lk (gρ2 want g s.ρ l) t = some v → ∃ u, a.tmps[t]? = some u ∧ TRel K w v u
  | [], t, v, h => by simp [gρ2, lk] at h
  | .c _ :: l, t, v, h => gρ2_rel hs hc l (by simpa [gρ2] using h)
  | .t n :: l, t, v, h => by
    simp only [gρ2] at h
    split at h
    · rename_i v' hv'
      split at h
      · rename_i r hr
        simp only [lk] at h
        split at h
        · rename_i e; subst e; injection h with h; subst h
          obtain ⟨u, hu, hru⟩ := hs.tmps n v' hv'
          exact ⟨u, hu, gopen_rel hr hc hru⟩
        · exact gρ2_rel hs hc l h
      · exact gρ2_rel hs hc l h
    · exact gρ2_rel hs hc l h
theorem gwrap_done {K : Kr} {w : World} {want : Bool} {g r : TV} {u : Value} (hc : gcond want g = some true) (hr : TRel K w r u) : TRel K w (gwrap want g r) u := by
  unfold gcond at hc
  split at hc
  · simp only [Option.some.injEq] at hc
    exact .ifb _ _ _ (fun _ => hr) (fun e => by rw [hc] at e; cases e)
  · simp only [Option.some.injEq, Bool.and_eq_true] at hc
    exact .ifb _ _ _ (fun _ => .ifb _ _ _ (fun _ => hr) (fun e => by rw [hc.2] at e; cases e)) (fun e => by rw [hc.1] at e; cases e)
  · cases hc
  · cases hc
theorem gwrap_left {K : Kr} {w : World} {want : Bool} {g r : TV} (hc : gcond want g = some false) : TRel K w (gwrap want g r) undef := by
  unfold gcond at hc
  split at hc
  · simp only [Option.some.injEq] at hc
    exact .ifb _ _ _ (fun e => by rw [hc] at e; cases e) (fun _ => rfl)
  · simp only [Option.some.injEq] at hc
    refine .ifb _ _ _ (fun e => .ifb _ _ _ (fun e' => by rw [e, e'] at hc; cases hc) (fun _ => rfl)) (fun _ => rfl)
  · exact .dead
  · cases hc

/-- The run of a region in its text's order. -/
def wpr (P : Program) : List AIns → (St → Prop) → St → Prop
  | [], K, s => K s
  | i :: is, K, s =>
    match i.guard with
    | none => ∃ R, Step P s i.op R ∧ ∀ r σ', R r σ' → wpr P is K ({ s with σ := σ' }.put i.dst r)
    | some (t, want) => ∃ v x, lk s.ρ t = some v ∧ gcond want v = some x ∧
        (((x = true → ∃ R, Step P s i.op R ∧ ∀ r σ', R r σ' → wpr P is K ({ s with σ := σ' }.put i.dst r)) ∧
        (x = false → wpr P is K (s.put i.dst .dead))) ∨
        ∃ r, aop (gρ2 want v s.ρ (opds i.op)) [] i.op = some (r, []) ∧ wpr P is K (s.put i.dst (gwrap want v r)))
/-- .. where the guard is a plain truth. -/
theorem wpr_guard {P : Program} {i : AIns} {is : List AIns} {K : St → Prop} {s : St} {t : Nat} {want : Bool} (hg : i.guard = some (t, want)) (h : ∃ b, lk s.ρ t = some (.iv (.bool b)) ∧
        (((b = want → ∃ R, Step P s i.op R ∧ ∀ r σ', R r σ' → wpr P is K ({ s with σ := σ' }.put i.dst r)) ∧
        (b ≠ want → wpr P is K (s.put i.dst .dead))) ∨
        ∃ r, aop (gρ (b == want) s.ρ (opds i.op)) [] i.op = some (r, []) ∧ wpr P is K (s.put i.dst (.ifb (b == want) r)))) : wpr P (i :: is) K s := by
  obtain ⟨b, hb, h⟩ := h
  simp only [wpr, hg]
  refine ⟨_, b == want, hb, rfl, ?_⟩
  rcases h with ⟨h1, h2⟩ | ⟨r, h1, h2⟩
  · exact .inl ⟨fun e => h1 (by simpa using e), fun e => h2 (by simpa using e)⟩
  · exact .inr ⟨r, by rw [gρ2_bool]; exact h1, h2⟩

theorem wpr_ok {P : Program} {N : Nat} {ops : Array Oper} {Q : Exit → Act → World → Prop} : ∀ {l : List Oper} {ch : List Nat} {is : List AIns} {K : St → Prop} {s : St} {Kr0 : Kr} {a : Act} {w : World},
    trAll P N ops ch l = some is → SRel N Kr0 s a w → wpr P is K s →
    (∀ Kr1 s1 a1 w1, SRel N Kr1 s1 a1 w1 → Evo Kr0 s.σ w Kr1 s1.σ w1 → a1.defers = a.defers → K s1 → Q .normal a1 w1) → wpList P ops Q l a w
  | [], ch, is, K, s, Kr0, a, w, ht, hs, h, hk => by
    simp [trAll] at ht; subst ht
    exact hk _ s a w hs (Evo.refl _ _ _) rfl h
  | o :: l, ch, is, K, s, Kr0, a, w, ht, hs, h, hk => by
    simp only [trAll] at ht
    split at ht
    · rename_i i r hi hr
      injection ht with ht; subst ht
      unfold trIns at hi
      split at hi
      · rename_i hd
        split at hi
        · rename_i ao hao
          split at hi
          · rename_i hcall
            have hcall' : ∀ f as_, ao = AOp.call f as_ → callOk P f = true := by
              rintro f as_ rfl
              exact hcall
            have hdst : ∀ d, o.dst = some d → d < N := by
              intro d e
              rw [e] at hd
              simpa [dstOk] using hd
            have go : ∀ {i : AIns}, i.dst = o.dst → i.op = ao → (∃ R, Step P s i.op R ∧ ∀ r' σ', R r' σ' → wpr P r K ({ s with σ := σ' }.put i.dst r')) → o.wp P a w (wpList P ops Q l) Q := by
              rintro i hid hio ⟨R, hst, hR⟩
              rw [hio] at hst
              refine Oper.wp_mono ?_ (hst.wp (N := N) hao hcall' Kr0 a w Q hs)
              rintro a1 w1 ⟨r', σ', K', u, rfl, hr', h1, h2, h3⟩
              have hs1 := TRel.put hs h3.le h2 h1 hdst
              have hw := hR r' σ' hr'
              rw [hid] at hw
              refine wpr_ok hr hs1 hw ?_
              intro Kr1 s1 a1 w1 hs2 he hdf hK
              rw [St.put_σ] at he
              exact hk Kr1 s1 a1 w1 hs2 (h3.trans he) (hdf.trans (put_defers _ _ _)) hK
            split at hi
            · rename_i hg
              injection hi with hi; subst hi
              simp only [wpr] at h
              unfold wpList
              rw [if_pos (by simp [Region.wanted, hg])]
              exact .inl (go (i := ⟨o.dst, none, ao⟩) rfl rfl h)
            · rename_i j want hg
              split at hi
              · rename_i t hjt
                injection hi with hi; subst hi
                simp only [wpr] at h
                obtain ⟨v, x, hv, hx, h12⟩ := h
                obtain ⟨u, hu, hru⟩ := hs.tmps t _ hv
                have hw : Region.wanted o (yielded ops a.tmps) = x := by
                  have hgr := gcond_rel hx hru
                  have hy : yielded ops a.tmps j = boolOf u := by
                    cases hop : ops[j]? with
                    | none => simp [hop] at hjt
                    | some oj =>
                      simp only [hop, Option.bind_some] at hjt
                      simp only [yielded, hop, Option.bind_some, hjt, hu]
                      cases u <;> rfl
                  simp only [Region.wanted, hg, hy]
                  exact hgr
                unfold wpList
                rw [hw]
                rcases h12 with ⟨h1, h2⟩ | ⟨r1, hr1, h2⟩
                rotate_left
                · -- one way for both
                  have put := fun (w1 : World) (K1 : Kr) (u : Value) (e : Evo Kr0 s.σ w K1 s.σ w1) (g : SlotsRel K1 s.σ w1) (hu : TRel K1 w1 (gwrap want v r1) u) =>
                    TRel.put hs e.le g hu hdst
                  cases x with
                  | true =>
                    rw [if_pos rfl]
                    refine .inl ?_
                    have hs' : SRel N Kr0 { ρ := gρ2 want v s.ρ (opds ao), σ := s.σ } a w := ⟨hs.size, fun t v hv => gρ2_rel hs hx _ hv, hs.slots⟩
                    have hok := aop_ok (N := N) (s := { ρ := gρ2 want v s.ρ (opds ao), σ := s.σ }) hao (aop_free hr1 s.σ)
                    refine Oper.wp_mono ?_ (OpWp.ofOk hok Kr0 a w Q hs')
                    rintro a1 w1 ⟨r', σ', K', u, rfl, ⟨rfl, rfl⟩, g1, g2, g3⟩
                    refine wpr_ok hr (put w1 K' u g3 g2 (gwrap_done hx g1)) h2 ?_
                    intro Kr1 s1 a1 w1 hs2 he hdf hK
                    rw [St.put_σ] at he
                    exact hk Kr1 s1 a1 w1 hs2 (g3.trans he) (hdf.trans (put_defers _ _ _)) hK
                  | false =>
                    rw [if_neg (by simp)]
                    refine wpr_ok hr (put w Kr0 undef (Evo.refl _ _ _) hs.slots (gwrap_left hx)) h2 ?_
                    intro Kr1 s1 a1 w1 hs2 he hdf hK
                    rw [St.put_σ] at he
                    exact hk Kr1 s1 a1 w1 hs2 he (hdf.trans (put_defers _ _ _)) hK
                cases x with
                | true =>
                  rw [if_pos rfl]
                  exact .inl (go (i := ⟨o.dst, some (t, want), ao⟩) rfl rfl (h1 rfl))
                | false =>
                  rw [if_neg (by simp)]
                  have hs1 := TRel.put hs (Kr.Le.refl _ _) hs.slots TRel.dead hdst
                  refine wpr_ok hr hs1 (h2 rfl) ?_
                  intro Kr1 s1 a1 w1 hs2 he hdf hK
                  rw [St.put_σ] at he
                  exact hk Kr1 s1 a1 w1 hs2 he (hdf.trans (put_defers _ _ _)) hK
              · cases hi
          · cases hi
        · cases hi
      · cases hi
    · cases ht

end Go.Proofs.YtdlgenppdgkacaaGreatDoor.Ag
