/- Calls that give up (panic), and what they give up with; functions that defer one function, which recovers. -/
import Derived.Test.YtdlgenppdgkacaaGreatDoorAgV
import Derived.Test.YtdlgenppdgkacaaGreatDoorAgC4
import Derived.Defers
import Derived.Recover
set_option linter.unusedVariables false
set_option linter.unusedSimpArgs false
namespace Go.Proofs.YtdlgenppdgkacaaGreatDoor.Ag
open Go.RowKit (Below)

/-- How a call ends: it returns, or it gives up with a value. -/
inductive QOut where
  | ret (r : TV)
  | pan (x : IV)
inductive QEx where
  | nrm (e : AEx)
  | pan (x : IV)
def GQ (P : Program) (f : FuncId) (args : List TV) (σ : Slots) (o : QOut) (σ' : Slots) : Prop :=
  ∀ (K : Kr) (w : World) (vs : Array Value), SlotsRel K σ w → vs.size = args.length → (∀ (q : Nat) (c : TV) (v : Value), args[q]? = some c → vs[q]? = some v → TRel K w c v) →
    Calls P f vs w fun e w' => ∃ v K', SlotsRel K' σ' w' ∧ Evo K σ w K' σ' w' ∧ (match o with
      | .ret r => e = .returned v ∧ TRel K' w' r v
      | .pan x => e = .panicked [{ v := v, recovered := false }] ∧ Rel K'.I w' x v)
theorem GQ.gc {P : Program} {f : FuncId} {args : List TV} {σ σ' : Slots} {r : TV} (h : GQ P f args σ (.ret r) σ') : GC P f args σ (fun r' σ'' => r' = r ∧ σ'' = σ') := by
  intro K w vs hs hsz hr
  refine (h K w vs hs hsz hr).mono ?_
  rintro e w' ⟨v, K', h1, h2, rfl, h3⟩
  exact ⟨v, rfl, K', r, σ', ⟨rfl, rfl⟩, h3, h1, h2⟩
theorem GC.gq {P : Program} {f : FuncId} {args : List TV} {σ σ' : Slots} {r : TV} (h : GC P f args σ (fun r' σ'' => r' = r ∧ σ'' = σ')) : GQ P f args σ (.ret r) σ' := by
  intro K w vs hs hsz hr
  refine (h K w vs hs hsz hr).mono ?_
  rintro e w' ⟨v, rfl, K', r', σ'', ⟨rfl, rfl⟩, h3, h1, h2⟩
  exact ⟨v, K', h1, h2, rfl, h3⟩

abbrev CallQ := FuncId → List TV → Slots → Option (QOut × Slots)
def CallIsQ (P : Program) (c : CallQ) : Prop := ∀ f vs σ o σ', c f vs σ = some (o, σ') → callOk P f = true ∧ GQ P f vs σ o σ'
def normQ (c : CallQ) : CallF := fun f vs σ => match c f vs σ with
  | some (.ret r, σ') => some (r, σ')
  | _ => none
theorem normQ_ok {P : Program} {c : CallQ} (h : CallIsQ P c) : CallIs P (normQ c) := by
  intro f vs σ r σ' hc
  unfold normQ at hc
  split at hc
  · rename_i r' σ1 h1
    injection hc with hc; injection hc with h2 h3; subst h2; subst h3
    exact ⟨(h _ _ _ _ _ h1).1, (h _ _ _ _ _ h1).2.gc⟩
  · cases hc
def liftQ : Option (TV × Slots) → Option (QOut × Slots)
  | some (r, σ') => some (.ret r, σ')
  | none => none
def evQ1 (md : Modes) (cq : CallQ) (ρ : List (Nat × TV)) (σ : Slots) : AOp → Option (QOut × Slots)
  | .call f as_ => if md f = 0 then (match evAllT σ ρ as_ with
      | some vs => cq f vs σ
      | none => none) else liftQ (evOp md (normQ cq) ρ σ (.call f as_))
  | .panicA x => match ev ρ x with
    | some (.iv (.iface t y)) => some (.pan (.iface t y), σ)
    | _ => none
  | o => liftQ (evOp md (normQ cq) ρ σ o)
def evQR (md : Modes) (cq : CallQ) : List AIns → St → Option (QEx × St)
  | [], s => some (.nrm .normal, s)
  | i :: is, s => match i.guard with
    | none => match evQ1 md cq s.ρ s.σ i.op with
      | some (.ret r, σ') => evQR md cq is ({ s with σ := σ' }.put i.dst r)
      | some (.pan x, σ') => some (.pan x, { s with σ := σ' })
      | none => none
    | some (t, want) => match lk s.ρ t with
      | some (.iv (.bool b)) => if b = want then (match evQ1 md cq s.ρ s.σ i.op with
          | some (.ret r, σ') => evQR md cq is ({ s with σ := σ' }.put i.dst r)
          | some (.pan x, σ') => some (.pan x, { s with σ := σ' })
          | none => none)
        else evQR md cq is (s.put i.dst .dead)
      | some .dead => evQR md cq is (s.put i.dst .dead)
      | _ => none
def liftC : Option (AEx × St) → Option (QEx × St)
  | some (e, s) => some (.nrm e, s)
  | none => none
def evQLoop (g : St → Option (QEx × St)) : Nat → St → Option (QEx × St)
  | 0, _ => none
  | n + 1, s => match g s with
    | some (.nrm .normal, s') => evQLoop g n s'
    | r => r
/-- A region that draws its order, of which one operation gives up. -/
def evXn (md : Modes) (call : CallF) (bd : List Nat) : Nat → List AIns → St → Nat
  | k, [], _ => k
  | k, i :: is, s => match i.guard with
    | none => match evX1 md call bd k i s with
      | some o => evXn md call bd (k + 1) is o.s
      | none => k
    | some (t, want) => match lk s.ρ t with
      | some (.iv (.bool b)) => if b = want then (match evX1 md call bd k i s with
          | some o => evXn md call bd (k + 1) is o.s
          | none => k)
        else evXn md call bd (k + 1) is (s.put i.dst .dead)
      | some .dead => evXn md call bd (k + 1) is (s.put i.dst .dead)
      | _ => k
def wantsQ (i : AIns) (ρ : List (Nat × TV)) : Bool := match i.guard with
  | none => true
  | some (t, want) => match lk ρ t with
    | some (.iv (.bool b)) => decide (b = want)
    | _ => false
def evQX (md : Modes) (cq : CallQ) (bd : List Nat) (is : List AIns) (s : St) (pi : Nat) : Option (QEx × St) :=
  match is.drop pi with
  | [] => none
  | i :: rest => if bd.contains pi then match evX md (normQ cq) bd 0 (is.take pi) s with
    | some o1 => if wantsQ i o1.s.ρ then match evQ1 md cq o1.s.ρ o1.s.σ i.op with
        | some (.pan x, σ') => match evX md (normQ cq) bd pi (blkT bd pi [] (i :: rest)) o1.s with
          | some o2 => if (o1.tr ++ o2.tr).all (fun y => (o1.X ++ o2.X).all fun p => eqPlace y.1 y.2 p) then some (.pan x, { ρ := [], σ := σ' }) else none
          | none => none
        | _ => none
      else none
    | none => none
    else none
def evQC (md : Modes) (cq : CallQ) (L : Nat) : ACode → St → Option (QEx × St)
  | .region is, s => evQR md cq is s
  | .seq a b, s => match evQC md cq L a s with
    | some (.nrm .normal, s') => evQC md cq L b s'
    | r => r
  | .cond c a b, s => match ev s.ρ c with
    | some (.iv (.bool true)) => evQC md cq L a s
    | some (.iv (.bool false)) => evQC md cq L b s
    | _ => none
  | .block id a, s => match evQC md cq L a s with
    | some (.nrm (.exit i), s') => if i = id then some (.nrm .normal, s') else some (.nrm (.exit i), s')
    | r => r
  | .loop a, s => evQLoop (evQC md cq L a) L s
  | .scope a, s => evQC md cq L a s
  | .draw bd is, s => match liftC (evC md (normQ cq) L (.draw bd is) s) with
    | some r => some r
    | none => evQX md cq bd is s (evXn md (normQ cq) bd 0 is s)
  | c, s => liftC (evC md (normQ cq) L c s)

/-! ### it is right -/
def PostQ (N : Nat) (K : Kr) (σ : Slots) (w : World) (df : List Deferred) (e : QEx) (s' : St) (ex : Exit) (a' : Act) (w' : World) : Prop :=
  ∃ K', SRel N K' s' a' w' ∧ Evo K σ w K' s'.σ w' ∧ a'.defers = df ∧ (match e with
    | .nrm ae => ERel ex ae
    | .pan x => ∃ v, ex = .panic [{ v := v, recovered := false }] ∧ Rel K'.I w' x v)
theorem liftQ_ret {x : Option (TV × Slots)} {o : QOut} {σ' : Slots} (h : liftQ x = some (o, σ')) : ∃ r, o = .ret r ∧ x = some (r, σ') := by
  unfold liftQ at h
  split at h
  · rename_i r σ1
    injection h with h; injection h with h1 h2; subst h1; subst h2
    exact ⟨r, rfl, rfl⟩
  · cases h
section
variable {P : Program} {md : Modes} {cq : CallQ} {N : Nat} {L : Nat}
theorem evQ1_ret (hc : CallIsQ P cq) {s : St} {o : AOp} {r : TV} {σ' : Slots} (h : evQ1 md cq s.ρ s.σ o = some (.ret r, σ')) : ∃ R, Step P s o R ∧ ∀ r' σ'', R r' σ'' → r' = r ∧ σ'' = σ' := by
  have gen : ∀ {o : AOp}, liftQ (evOp md (normQ cq) s.ρ s.σ o) = some (.ret r, σ') → ∃ R, Step P s o R ∧ ∀ r' σ'', R r' σ'' → r' = r ∧ σ'' = σ' := by
    intro o h
    obtain ⟨r', e, h1⟩ := liftQ_ret h
    injection e with e; subst e
    exact evOp_step (normQ_ok hc) h1
  cases o
  case call f as_ =>
    simp only [evQ1] at h
    split at h
    · split at h
      · rename_i vs hvs
        rw [evAllT_is] at hvs
        exact ⟨_, .callT f as_ vs _ hvs (hc _ _ _ _ _ h).2.gc, fun _ _ h => h⟩
      · cases h
    · exact gen h
  case panicA x =>
    simp only [evQ1] at h
    split at h
    · injection h with h; injection h with h1 h2; cases h1
    · cases h
  all_goals exact gen (by simpa only [evQ1] using h)
theorem trX0_panic {ch : Nat} {o : Oper} {x' : AOpd} (h : trOp P ch o = some (.panicA x')) : ∃ x, o.op = .panic x ∧ trOpd x = some x' := by
  unfold trOp at h
  split at h
  · rename_i r hr
    injection h with h; subst h
    unfold trX0 at hr
    simp only [trX1] at hr
    repeat' split at hr
    all_goals first
      | (cases hr; done)
      | (injection hr with hr; cases hr; done)
      | (rename_i hop _ _ htx; injection hr with hr; injection hr with hr; subst hr; exact ⟨_, hop, htx⟩)
      | (rename_i hop _ htx; injection hr with hr; injection hr with hr; subst hr; exact ⟨_, hop, htx⟩)
      | (rename_i x hop x' htx; injection hr with hr; injection hr with hr; subst hr; exact ⟨_, hop, htx⟩)
  · split at h
    · rename_i r hr
      split at h
      · injection h with h; subst h
        exfalso
        obtain ⟨d, op, ty, ps, af, g⟩ := o
        cases op
        case makeMap t res => cases res <;> (simp only [trOp0] at hr; repeat' split at hr) <;> first | (cases hr; done) | (injection hr with hr; cases hr; done)
        all_goals (simp only [trOp0] at hr; repeat' split at hr)
        all_goals first
          | (cases hr; done)
          | (injection hr with hr; cases hr; done)
          | (injection hr with hr; split at hr <;> cases hr; done)
      · injection h with h; cases h
    · split at h
      · cases h
      · injection h with h; cases h
theorem evQ1_pan (hc : CallIsQ P cq) {s : St} {o : Oper} {ao : AOp} {ch : Nat} {x : IV} {σ' : Slots} (ht : trOp P ch o = some ao) (hcall : ∀ f as_, ao = AOp.call f as_ → callOk P f = true) (h : evQ1 md cq s.ρ s.σ ao = some (.pan x, σ'))
    {K : Kr} {a : Act} {w : World} (hs : SRel N K s a w) {next : Act → World → Prop} {Q : Exit → Act → World → Prop}
    (hq : ∀ K1 w1 v, SRel N K1 { s with σ := σ' } a w1 → Evo K s.σ w K1 σ' w1 → Rel K1.I w1 x v → Q (.panic [{ v := v, recovered := false }]) a w1) : o.wp P a w next Q := by
  have gen : ∀ {o : AOp}, liftQ (evOp md (normQ cq) s.ρ s.σ o) = some (.pan x, σ') → False := by
    intro o h
    obtain ⟨r', e, h1⟩ := liftQ_ret h
    cases e
  cases ao
  case call f as_ =>
    simp only [evQ1] at h
    split at h
    · split at h
      · rename_i vs hvs
        rw [evAllT_is] at hvs
        obtain ⟨args, tys, e, tr⟩ := trOp_call ht
        obtain ⟨d, op, ty, ps, af, g⟩ := o
        simp only at e; subst e
        obtain ⟨e1, e2⟩ := evAll_rel hs.thaw args.toList as_ vs tr hvs
        have hsz : (args.map a.eval).size = vs.length := by simp [e1]
        have hrun : (execOp a.eval ⟨d, .call { callee := .value (.func f), args := args, argTypes := tys }, ty, ps, af, g⟩).run P w = .ok (.enter f (args.map a.eval)) w := by
          simp [execOp, resolve, Act.eval, Deferred.ofValue, invoke, run_callFunc (hcall f as_ rfl)]
        unfold Oper.wp
        rw [hrun]
        show Calls P f (args.map a.eval) w _
        refine ((hc _ _ _ _ _ h).2 K w (args.map a.eval) hs.slots hsz (fun q c v hc hv => e2 q c v hc (by simpa using hv))).mono ?_
        rintro e w' ⟨v, K', h1, h2, rfl, h3⟩
        exact hq K' w' v ⟨hs.size, fun t v hv => by
          obtain ⟨u, hu, hur⟩ := hs.tmps t v hv
          exact ⟨u, hu, hur.mono h2.le⟩, h1⟩ h2 h3
      · cases h
    · exact (gen h).elim
  case panicA x' =>
    simp only [evQ1] at h
    split at h
    · rename_i t y hx
      injection h with h; injection h with h1 h2; injection h1 with h1; subst h1; subst h2
      obtain ⟨x0, e, tx⟩ := trX0_panic ht
      obtain ⟨d, op, ty, ps, af, g⟩ := o
      simp only at e; subst e
      have hr := ev_rel hs tx hx
      cases hr with
      | iv _ _ hr =>
      generalize hcv : a.eval x0 = cv at hr
      cases hr with
      | iface _ _ v hv =>
      have hrun : (execOp a.eval ⟨d, .panic x0, ty, ps, af, g⟩).run P w = .halt (.panic (.iface t v)) w := by
        simp [execOp, hcv, Instr.panic, goPanic]
      unfold Oper.wp
      rw [hrun]
      exact hq K w _ hs (Evo.refl _ _ _) (.iface t y v hv)
    · cases h
  all_goals exact (gen (by simpa only [evQ1] using h)).elim

theorem evQR_ok {ops : Array Oper} {Q : Exit → Act → World → Prop} (hc : CallIsQ P cq) (l2 : List Oper) : ∀ {l : List Oper} {ch : List Nat} {is : List AIns} {s s' : St} {e : QEx} {K : Kr} {a : Act} {w : World},
    trAll P N ops ch l = some is → SRel N K s a w → evQR md cq is s = some (e, s') →
    (e = .nrm .normal → ∀ K1 a1 w1, SRel N K1 s' a1 w1 → Evo K s.σ w K1 s'.σ w1 → a1.defers = a.defers → wpList P ops Q l2 a1 w1) →
    (∀ x, e = .pan x → ∀ K1 a1 w1 v, SRel N K1 s' a1 w1 → Evo K s.σ w K1 s'.σ w1 → a1.defers = a.defers → Rel K1.I w1 x v → Q (.panic [{ v := v, recovered := false }]) a1 w1) →
    (∀ ae, e = .nrm ae → ae = .normal) → wpList P ops Q (l ++ l2) a w
  | [], ch, is, s, s', e, K, a, w, ht, hs, h, hk, hp, hn => by
    simp [trAll] at ht; subst ht
    simp only [evQR, Option.some.injEq, Prod.mk.injEq] at h
    obtain ⟨rfl, rfl⟩ := h
    exact hk rfl K a w hs (Evo.refl _ _ _) rfl
  | o :: l, ch, is, s, s', e, K, a, w, ht, hs, h, hk, hp, hn => by
    simp only [trAll] at ht
    split at ht
    · rename_i i r hi hr
      injection ht with ht; subst ht
      obtain ⟨w1, w2, w3, w4, w5, w6, w7⟩ := wanted_of hi hs
      have go : ∀ (h : (match evQ1 md cq s.ρ s.σ i.op with
          | some (.ret r', σ') => evQR md cq r ({ s with σ := σ' }.put i.dst r')
          | some (.pan x, σ') => some (.pan x, { s with σ := σ' })
          | none => none) = some (e, s')), o.wp P a w (wpList P ops Q (l ++ l2)) Q := by
        intro h
        split at h
        · rename_i r' σ1 h1
          obtain ⟨R, hst, hR⟩ := evQ1_ret hc h1
          refine Oper.wp_mono ?_ (hst.wp (N := N) w3 w4 K a w Q hs)
          rintro a1 w1' ⟨r2, σ2, K', u, rfl, hr', g1, g2, g3⟩
          obtain ⟨rfl, rfl⟩ := hR r2 σ2 hr'
          have hs1 := TRel.put hs g3.le g2 g1 w2
          rw [w1] at h
          refine evQR_ok hc l2 hr hs1 h ?_ ?_ hn
          · intro e0 K1 a1 w1 q1 q2 q3
            rw [St.put_σ] at q2
            exact hk e0 K1 a1 w1 q1 (g3.trans q2) (q3.trans (put_defers _ _ _))
          · intro x e0 K1 a1 w1 v q1 q2 q3 q4
            rw [St.put_σ] at q2
            exact hp x e0 K1 a1 w1 v q1 (g3.trans q2) (q3.trans (put_defers _ _ _)) q4
        · rename_i x σ1 h1
          injection h with h; injection h with h2 h3; subst h2; subst h3
          exact evQ1_pan hc w3 w4 h1 hs fun K1 w1 v q1 q2 q3 => hp x rfl K1 a w1 v q1 q2 rfl q3
        · cases h
      have skip : Region.wanted o (yielded ops a.tmps) = false → evQR md cq r (s.put i.dst .dead) = some (e, s') → wpList P ops Q (o :: l ++ l2) a w := by
        intro hw h
        show wpList P ops Q (o :: (l ++ l2)) a w
        unfold wpList
        rw [hw, if_neg (by simp)]
        have hs1 := TRel.put hs (Kr.Le.refl _ _) hs.slots TRel.dead w2
        rw [w1] at h
        refine evQR_ok hc l2 hr hs1 h ?_ ?_ hn
        · intro e0 K1 a1 w1 q1 q2 q3
          rw [St.put_σ] at q2
          exact hk e0 K1 a1 w1 q1 q2 (q3.trans (put_defers _ _ _))
        · intro x e0 K1 a1 w1 v q1 q2 q3 q4
          rw [St.put_σ] at q2
          exact hp x e0 K1 a1 w1 v q1 q2 (q3.trans (put_defers _ _ _)) q4
      simp only [evQR] at h
      split at h
      · rename_i hg
        show wpList P ops Q (o :: (l ++ l2)) a w
        unfold wpList
        rw [w5 hg, if_pos rfl]
        exact .inl (go h)
      · rename_i t want hg
        split at h
        · rename_i b hb
          have hwb := w6 t want b hg hb
          split at h
          · rename_i hbw
            show wpList P ops Q (o :: (l ++ l2)) a w
            unfold wpList
            rw [hwb, if_pos (by simpa using hbw)]
            exact .inl (go h)
          · rename_i hbw
            exact skip (by rw [hwb]; simpa using hbw) h
        · rename_i hb
          exact skip (w7 t want hg hb) h
        · cases h
    · cases ht
theorem evQR_nrm : ∀ {is : List AIns} {s s' : St} {e : QEx}, evQR md cq is s = some (e, s') → ∀ ae, e = .nrm ae → ae = .normal
  | [], s, s', e, h, ae, he => by
    simp only [evQR, Option.some.injEq, Prod.mk.injEq] at h
    obtain ⟨rfl, rfl⟩ := h
    injection he with he; exact he.symm
  | i :: is, s, s', e, h, ae, he => by
    have go : (match evQ1 md cq s.ρ s.σ i.op with
          | some (.ret r', σ') => evQR md cq is ({ s with σ := σ' }.put i.dst r')
          | some (.pan x, σ') => some (.pan x, { s with σ := σ' })
          | none => none) = some (e, s') → ae = .normal := by
      intro h
      split at h
      · exact evQR_nrm h ae he
      · injection h with h; injection h with h1 h2; subst h1; cases he
      · cases h
    simp only [evQR] at h
    split at h
    · exact go h
    · split at h
      · split at h
        · exact go h
        · exact evQR_nrm h ae he
      · exact evQR_nrm h ae he
      · cases h

theorem liftC_ok {x : Option (AEx × St)} {e : QEx} {s' : St} (h : liftC x = some (e, s')) : ∃ ae, e = .nrm ae ∧ x = some (ae, s') := by
  unfold liftC at h
  split at h
  · rename_i ae s1
    injection h with h; injection h with h1 h2; subst h1; subst h2
    exact ⟨ae, rfl, rfl⟩
  · cases h
theorem evQC_old (hc : CallIsQ P cq) {ch : List (Nat × List Nat)} {c : Code} {ac : ACode} {s s' : St} {e : QEx} {K : Kr} {a : Act} {w : World} (ht : trC P N ch c = some ac) (hs : SRel N K s a w) (h : liftC (evC md (normQ cq) L ac s) = some (e, s')) :
    c.wp P (PostQ N K s.σ w a.defers e s') a w := by
  obtain ⟨ae, rfl, h1⟩ := liftC_ok h
  have := evC_ok (normQ_ok hc) ac (Q := fun ae' s1 => ae' = ae ∧ s1 = s') h1 ⟨rfl, rfl⟩
  refine wp_mono (wpc_ok c ht hs this) ?_
  rintro ex a1 w1 ⟨K1, s1, ae', he, g1, g2, g3, rfl, rfl⟩
  exact ⟨K1, g1, g2, g3, he⟩
theorem evQ1_congr {ρ ρ' : List (Nat × TV)} {σ σ' : Slots} {o : AOp} {x : IV} (he : ∀ y ∈ opds o, ev ρ' y = ev ρ y) (h : evQ1 md cq ρ σ o = some (.pan x, σ')) : evQ1 md cq ρ' σ o = some (.pan x, σ') := by
  have gen : ∀ {y : Option (TV × Slots)}, liftQ y = some (.pan x, σ') → False := by
    intro y h
    obtain ⟨r', e, h1⟩ := liftQ_ret h
    cases e
  cases o
  case call f as_ =>
    simp only [evQ1] at h ⊢
    split at h
    · rename_i hm
      rw [if_pos hm]
      have : evAllT σ ρ' as_ = evAllT σ ρ as_ := by
        rw [evAllT_is, evAllT_is]
        refine evAll_congr fun y hy => ?_
        have := he y (by simpa [opds] using hy)
        cases y with
        | c v => rfl
        | t n =>
          simp only [ev] at this
          simp only [ev, lk_thawR, this]
      rw [this]; exact h
    · exact (gen h).elim
  case panicA y =>
    simp only [evQ1] at h ⊢
    rw [he y (by simp [opds])]; exact h
  all_goals exact (gen (by simpa only [evQ1] using h)).elim
theorem evQX_ok (hc : CallIsQ P cq) {ch : List (Nat × List Nat)} {id : Nat} {ops : Array Oper} {bd : List Nat} {is : List AIns} {s s' : St} {e : QEx} {K : Kr} {a : Act} {w : World} {pi : Nat}
    (ht : trC P N ch (.region id ops true) = some (.draw bd is)) (hs : SRel N K s a w) (h : evQX md cq bd is s pi = some (e, s')) : (Code.region id ops true).wp P (PostQ N K s.σ w a.defers e s') a w := by
  simp only [trC] at ht
  split at ht
  rotate_left
  · cases ht
  rename_i is0 hi
  split at ht
  rotate_left
  · cases ht
  rename_i hcond
  simp only [Bool.and_eq_true] at hcond
  injection ht with ht; injection ht with hbd his
  subst his
  obtain ⟨l1, l2⟩ := trAll_len hi
  have hl : is0.length = ops.size := by simpa using l1
  have hchk := chk_of hl hcond.2
  rw [hbd] at hchk
  obtain ⟨g1, g2⟩ := hs.slots.grew (Grew.drew w none)
  have hs' : SRel N K s a w.drew := ⟨hs.size, fun t v hv => by
    obtain ⟨u, h3, h4⟩ := hs.tmps t v hv
    exact ⟨u, h3, h4.mono g2.le⟩, g1⟩
  unfold evQX at h
  split at h
  · cases h
  rename_i i rest hdrop
  split at h
  rotate_left
  · cases h
  rename_i hpb
  split at h
  rotate_left
  · cases h
  rename_i o1 ho1
  split at h
  rotate_left
  · cases h
  rename_i hwant
  split at h
  rotate_left
  · cases h
  rename_i x σ1 hq1
  split at h
  rotate_left
  · cases h
  rename_i o2 ho2
  split at h
  rotate_left
  · cases h
  rename_i hall
  injection h with h; injection h with h1 h2; subst h1; subst h2
  have hpl : pi < is0.length := by
    rcases Nat.lt_or_ge pi is0.length with g | g
    · exact g
    · rw [List.drop_eq_nil_of_le g] at hdrop; cases hdrop
  have hpi : is0[pi]? = some i := by
    have : (is0.drop pi)[0]? = some i := by rw [hdrop]; rfl
    rw [List.getElem?_drop] at this; simpa using this
  have hX : ∀ y ∈ o1.tr ++ o2.tr, ∀ p ∈ o1.X ++ o2.X, lk y.2 p = lk y.1 p := fun y hy p hp => eqPlace_ok (List.all_eq_true.1 (List.all_eq_true.1 hall y hy) p hp)
  obtain ⟨S1, e1, f1, k1⟩ := evX_ok (X := o1.X ++ o2.X) (normQ_ok hc) ho1 (fun p hp => List.mem_append.2 (.inl hp)) (fun y hy => hX y (List.mem_append.2 (.inl hy)))
  obtain ⟨S2, e2, f2, k2⟩ := evX_ok (X := o1.X ++ o2.X) (normQ_ok hc) ho2 (fun p hp => List.mem_append.2 (.inr hp)) (fun y hy => hX y (List.mem_append.2 (.inr hy)))
  have htk : (is0.take pi).length = pi := by simp; omega
  rw [htk] at k1
  have hS : ∃ S : Nat → St, (∀ n, n ≤ pi → S n = S1 n) ∧ (∀ n, S (pi + n) = S2 n) := by
    refine ⟨fun n => if n ≤ pi then S1 n else S2 (n - pi), fun n hn => if_pos hn, fun n => ?_⟩
    simp only
    split
    · obtain rfl : n = 0 := by omega
      rw [Nat.add_zero, k1, e2]
    · rw [Nat.add_sub_cancel_left]
  obtain ⟨S, hSa, hSb⟩ := hS
  have hS0 : S 0 = s := by rw [hSa 0 (Nat.zero_le _), e1]
  have hSp : S pi = o1.s := by rw [hSa pi (Nat.le_refl _), k1]
  rw [← hdrop] at ho2 f2
  have hch : Chain P (is0.take pi ++ blkT bd pi [] (is0.drop pi)) bd (o1.X ++ o2.X) S := by
    refine ⟨fun j y hy => ?_⟩
    rcases Nat.lt_or_ge j pi with g | g
    · rw [List.getElem?_append_left (by omega)] at hy
      have := f1 j y hy
      rw [Nat.zero_add] at this
      rw [hSa j (by omega), hSa (j + 1) (by omega)]; exact this
    · rw [List.getElem?_append_right (by omega), htk] at hy
      have := f2 (j - pi) y hy
      rw [show pi + (j - pi) = j by omega] at this
      rw [← hSb, ← hSb, show pi + (j - pi) = j by omega, show pi + (j - pi + 1) = j + 1 by omega] at this
      exact this
  have hsp : ∀ (j : Nat) (x' : AIns), (is0.take pi ++ blkT bd pi [] (is0.drop pi))[j]? = some x' → ∃ x, is0[j]? = some x ∧ x'.dst = x.dst ∧ (x' = x ∨ (Blk is0 bd pi j ∧ readsOf x' = [])) := by
    intro j y hy
    rcases Nat.lt_or_ge j pi with g | g
    · rw [List.getElem?_append_left (by omega), List.getElem?_take_of_lt g] at hy
      exact ⟨y, hy, rfl, .inl rfl⟩
    · rw [List.getElem?_append_right (by omega), htk] at hy
      have := blkT_spec (is := is0) (bd := bd) (pi := pi) (is0.drop pi) pi [] (Nat.le_refl _) (fun j => by rw [List.getElem?_drop]) (fun d hd => by cases hd) (j - pi) y hy
      rw [show pi + (j - pi) = j by omega] at this
      exact this
  refine wp_region_any hcond.1 (drawnP_ok (is' := is0.take pi ++ blkT bd pi [] (is0.drop pi)) (S := S) (pi := pi) hl hchk (by rw [List.length_append, blkT_len, htk, List.length_drop]; omega) hsp hch (fun i o ho => l2 i o (by simpa using ho)) (by omega) hpb (K0 := K) (w0 := w) (df := a.defers) ?_ ops.size _ a _ ?_ ?_ ?_)
  · intro K3 s3 a3 w3 o y c ho hy htr h3 hE hdf hrd hσ
    rw [hpi] at hy; injection hy with hy; subst hy
    rw [hSp] at hrd hσ
    obtain ⟨w1, w2, w3', w4, w5, w6, w7⟩ := wanted_of htr h3
    refine ⟨?_, fun next => ?_⟩
    · unfold wantsQ at hwant
      split at hwant
      · rename_i hg; exact w5 hg
      · rename_i t want hg
        split at hwant
        · rename_i b hb
          rw [w6 t want b hg (by rw [hrd t (guard_mem hg)]; exact hb)]
          exact hwant
        · cases hwant
    · have hev : ∀ z ∈ opds i.op, ev s3.ρ z = ev o1.s.ρ z := by
        intro z hz
        cases z with
        | t n => exact hrd n (reads_mem hz)
        | c v => rfl
      refine evQ1_pan hc w3' w4 (evQ1_congr hev (by rw [hσ]; exact hq1)) h3 ?_
      intro K4 w4' v q1 q2 q3
      rw [hS0] at hE
      exact ⟨K4, ⟨q1.size, fun t v hv => by simp [lk] at hv, q1.slots⟩, hE.trans q2, hdf, v, rfl, q3⟩
  · refine ⟨by simp, ?_, rfl, K, s, hs', by rw [hS0]; exact g2, ?_, ?_, 0, Nat.zero_le _, ?_, by rw [hS0]⟩
    · intro j o ho hj; simp [Array.getElem?_replicate] at hj
    · intro j y d hy hj; simp [Array.getElem?_replicate] at hj
    · intro t _; rw [hS0]
    · intro j hj _; simp [Array.getElem?_replicate]
  · simp [Array.getElem?_replicate]; omega
  · refine Nat.le_trans (List.countP_le_length) (by simp)
theorem evQC_ok (hc : CallIsQ P cq) {ch : List (Nat × List Nat)} : ∀ (c : Code) {ac : ACode} {s s' : St} {e : QEx} {K : Kr} {a : Act} {w : World},
    trC P N ch c = some ac → SRel N K s a w → evQC md cq L ac s = some (e, s') → c.wp P (PostQ N K s.σ w a.defers e s') a w
  | .region id ops false, ac, s, s', e, K, a, w, ht, hs, h => by
    have ht0 := ht
    simp only [trC] at ht
    split at ht
    · rename_i is hi
      injection ht with ht; subst ht
      simp only [evQC] at h
      have := evQR_ok (Q := PostQ N K s.σ w a.defers e s') (ops := ops) hc [] hi hs h (fun e0 K1 a1 w1 q1 q2 q3 => by
        subst e0
        exact ⟨K1, q1, q2, q3, .normal⟩) (fun x e0 K1 a1 w1 v q1 q2 q3 q4 => by
        subst e0
        exact ⟨K1, q1, q2, q3, v, rfl, q4⟩) (evQR_nrm h)
      rw [List.append_nil] at this
      exact wp_region_list this
    · cases ht
  | .seq x y, ac, s, s', e, K, a, w, ht, hs, h => by
    simp only [trC] at ht
    split at ht
    · rename_i x' y' hx hy
      injection ht with ht; subst ht
      simp only [evQC] at h
      split at h
      · rename_i s1 h1
        refine wp_seq (wp_mono (evQC_ok hc x hx hs h1) ?_)
        rintro ex a1 w1 ⟨K1, g1, g2, g3, he⟩
        cases he
        refine wp_mono (evQC_ok hc y hy g1 h) ?_
        rintro ex a2 w2 ⟨K2, q1, q2, q3, q4⟩
        exact ⟨K2, q1, g2.trans q2, q3.trans g3, q4⟩
      · rename_i r hne
        refine wp_seq (wp_mono (evQC_ok hc x hx hs h) ?_)
        rintro ex a1 w1 ⟨K1, g1, g2, g3, he⟩
        cases e with
        | nrm ae =>
          cases he with
          | normal => exact absurd h (hne s')
          | exit id => exact ⟨K1, g1, g2, g3, .exit id⟩
          | ret => exact ⟨K1, g1, g2, g3, .ret⟩
        | pan x =>
          obtain ⟨v, rfl, hv⟩ := he
          exact ⟨K1, g1, g2, g3, v, rfl, hv⟩
    · cases ht
  | .cond c x y, ac, s, s', e, K, a, w, ht, hs, h => by
    simp only [trC] at ht
    split at ht
    · rename_i c' x' y' hcc hx hy
      injection ht with ht; subst ht
      simp only [evQC] at h
      split at h
      · rename_i hb
        have hr := ev_rel hs hcc hb
        have hbb : a.eval c = .bool true := by
          cases hr with
          | iv _ _ hr => generalize a.eval c = cv at hr; cases hr; rfl
        exact wp_cond_true hbb (evQC_ok hc x hx hs h)
      · rename_i hb
        have hr := ev_rel hs hcc hb
        have hbb : a.eval c = .bool false := by
          cases hr with
          | iv _ _ hr => generalize a.eval c = cv at hr; cases hr; rfl
        exact wp_cond_false hbb (evQC_ok hc y hy hs h)
      · cases h
    · cases ht
  | .block id x, ac, s, s', e, K, a, w, ht, hs, h => by
    simp only [trC] at ht
    split at ht
    · rename_i x' hx
      injection ht with ht; subst ht
      simp only [evQC] at h
      split at h
      · rename_i i s1 h1
        refine wp_block (wp_mono (evQC_ok hc x hx hs h1) ?_)
        rintro ex a1 w1 ⟨K1, g1, g2, g3, he⟩
        cases he
        simp only [Exit.inBlock]
        split at h
        · rename_i ei
          injection h with h; injection h with h2 h3; subst h2; subst h3
          rw [if_pos ei]; exact ⟨K1, g1, g2, g3, .normal⟩
        · rename_i ei
          injection h with h; injection h with h2 h3; subst h2; subst h3
          rw [if_neg ei]; exact ⟨K1, g1, g2, g3, .exit i⟩
      · rename_i r hne
        refine wp_block (wp_mono (evQC_ok hc x hx hs h) ?_)
        rintro ex a1 w1 ⟨K1, g1, g2, g3, he⟩
        cases e with
        | nrm ae =>
          cases he with
          | normal => exact ⟨K1, g1, g2, g3, .normal⟩
          | exit i => exact absurd h (hne i s')
          | ret => exact ⟨K1, g1, g2, g3, .ret⟩
        | pan x =>
          obtain ⟨v, rfl, hv⟩ := he
          exact ⟨K1, g1, g2, g3, v, rfl, hv⟩
    · cases ht
  | .loop x, ac, s, s', e, K, a, w, ht, hs, h => by
    simp only [trC] at ht
    split at ht
    · rename_i x' hx
      injection ht with ht; subst ht
      simp only [evQC] at h
      refine wp_loop_ghost (fun n a1 w1 => ∃ K1 s1, SRel N K1 s1 a1 w1 ∧ Evo K s.σ w K1 s1.σ w1 ∧ a1.defers = a.defers ∧ evQLoop (evQC md cq L x') n s1 = some (e, s')) L ⟨K, s, hs, Evo.refl _ _ _, rfl, h⟩ ?_
      rintro n a1 w1 ⟨K1, s1, h1, h2, h3, h4⟩
      cases n with
      | zero => simp [evQLoop] at h4
      | succ n =>
        simp only [evQLoop] at h4
        split at h4
        · rename_i s2 h5
          refine wp_mono (evQC_ok hc x hx h1 h5) ?_
          rintro ex a2 w2 ⟨K2, g1, g2, g3, he⟩
          cases he
          exact ⟨n, Nat.lt_succ_self n, K2, s2, g1, h2.trans g2, g3.trans h3, h4⟩
        · rename_i r hne
          refine wp_mono (evQC_ok hc x hx h1 h4) ?_
          rintro ex a2 w2 ⟨K2, g1, g2, g3, he⟩
          cases e with
          | nrm ae =>
            cases he with
            | normal => exact absurd h4 (hne s')
            | exit i => exact ⟨K2, g1, h2.trans g2, g3.trans h3, .exit i⟩
            | ret => exact ⟨K2, g1, h2.trans g2, g3.trans h3, .ret⟩
          | pan x =>
            obtain ⟨v, rfl, hv⟩ := he
            exact ⟨K2, g1, h2.trans g2, g3.trans h3, v, rfl, hv⟩
    · cases ht
  | .scope x, ac, s, s', e, K, a, w, ht, hs, h => by
    simp only [trC] at ht
    split at ht
    · rename_i x' hx
      injection ht with ht; subst ht
      simp only [evQC] at h
      refine wp_scope_straight (wp_mono (evQC_ok hc x hx hs h) ?_)
      rintro ex a1 w1 ⟨K1, g1, g2, g3, he⟩
      cases e with
      | nrm ae =>
        cases he with
        | normal => exact ⟨K1, g1, g2, g3, .normal⟩
        | exit i => exact ⟨K1, g1, g2, g3, .exit i⟩
        | ret => exact ⟨K1, g1, g2, g3, .ret⟩
      | pan x =>
        obtain ⟨v, rfl, hv⟩ := he
        exact ⟨K1, g1, g2, g3, v, rfl, hv⟩
    · cases ht
  | .region id ops true, ac, s, s', e, K, a, w, ht, hs, h => by
    have ht0 := ht
    simp only [trC] at ht
    split at ht
    · split at ht
      · injection ht with ht; subst ht
        simp only [evQC] at h
        split at h
        · rename_i r hr
          rw [h] at hr
          exact evQC_old hc ht0 hs hr
        · exact evQX_ok hc ht0 hs h
      · cases ht
    · cases ht
  | .skip, ac, s, s', e, K, a, w, ht, hs, h => by
    have ht0 := ht
    simp [trC] at ht; subst ht; exact evQC_old hc ht0 hs h
  | .rangeFunc f ps as_ x, ac, s, s', e, K, a, w, ht, hs, h => by simp [trC] at ht
  | .exit id, ac, s, s', e, K, a, w, ht, hs, h => by
    have ht0 := ht
    simp [trC] at ht; subst ht; exact evQC_old hc ht0 hs h
  | .label l, ac, s, s', e, K, a, w, ht, hs, h => by
    have ht0 := ht
    simp [trC] at ht; subst ht; exact evQC_old hc ht0 hs h
  | .goto l, ac, s, s', e, K, a, w, ht, hs, h => by simp [trC] at ht
  | .ret, ac, s, s', e, K, a, w, ht, hs, h => by
    have ht0 := ht
    simp [trC] at ht; subst ht; exact evQC_old hc ht0 hs h
  | .refuse why, ac, s, s', e, K, a, w, ht, hs, h => by simp [trC] at ht
end
end Go.Proofs.YtdlgenppdgkacaaGreatDoor.Ag
