/- Functions that defer one function, which recovers; the evaluator of calls that may give up. -/
import Derived.Test.YtdlgenppdgkacaaGreatDoorAgP
set_option linter.unusedVariables false
set_option linter.unusedSimpArgs false
namespace Go.Proofs.YtdlgenppdgkacaaGreatDoor.Ag
open Go.RowKit (Below)

/-- A function that defers one function: what is done ahead, the deferring, what is done behind. -/
inductive ADef where
  | step (a : ACode) (r : ADef)
  | dfr (is : List AIns) (x : AOpd) (b : ACode)
def dferOf (o : Oper) : Option AOpd := match o.op, o.dst, o.guard with
  | .defer c, none, none => (match c.callee, c.args.toList with
    | .value x, [] => trOpd x
    | _, _ => none)
  | _, _, _ => none
def splitLast {α : Type} (l : List α) : Option (List α × α) := match l.reverse with
  | o :: r => some (r.reverse, o)
  | [] => none
theorem splitLast_is {α : Type} {l r : List α} {o : α} (h : splitLast l = some (r, o)) : l = r ++ [o] := by
  unfold splitLast at h
  split at h
  · rename_i o' r' hl
    injection h with h; injection h with h1 h2; subst h1; subst h2
    rw [← List.reverse_reverse l, hl]; simp
  · cases h
def trD (P : Program) (N : Nat) (ch : List (Nat × List Nat)) : Code → Option ADef
  | .seq a b => match trC P N ch a with
    | some a' => (match trD P N ch b with
      | some r => some (.step a' r)
      | none => none)
    | none => match a with
      | .region id ops false => (match splitLast ops.toList with
        | some (l, o) => (match dferOf o, trAll P N ops (choice ch id) l, trC P N ch b with
          | some x, some is, some b' => some (.dfr is x b')
          | _, _, _ => none)
        | none => none)
      | _ => none
  | _ => none
def trFnD (P : Program) (ch : List (Nat × List Nat)) (fn : Func) : Option (ADef × List ARes) :=
  match fn.body with
  | some c => match trD P fn.ntmps ch c, trRes P fn.results.toList with
    | some ad, some rs => some (ad, rs)
    | _, _ => none
  | none => none
/-- A function that recovers first. -/
def recDst (o : Oper) : Option Nat := match o.op, o.dst, o.guard with
  | .call c, some d, none => (match c.callee, c.args.toList with
    | .builtin .recover, [] => some d
    | _, _ => none)
  | _, _, _ => none
def asgDst (o : Oper) : Option (Nat × Nat) := match o.op, o.dst, o.guard with
  | .assign (.tmp t), some d, none => some (t, d)
  | _, _, _ => none
def trRec (P : Program) (ch : List (Nat × List Nat)) (fn : Func) : Option (Nat × Nat × ACode) :=
  match fn.body with
  | some (.seq (.region _ ops false) b) => (match ops.toList with
    | [o1, o2] => (match recDst o1, asgDst o2, trC P fn.ntmps ch b, trRes P fn.results.toList with
      | some d1, some (t, d2), some b', some [] => if t = d1 ∧ d1 < fn.ntmps ∧ d2 < fn.ntmps then some (d1, d2, b') else none
      | _, _, _, _ => none)
    | _ => none)
  | _ => none
abbrev TabD := List (Nat × (Nat × ADef × List ARes))
abbrev TabR := List (Nat × (Nat × Nat × Nat × ACode))
def TabDOk (P : Program) (T : TabD) : Prop := ∀ e ∈ T, ∃ fn ch, P.funcs[e.1]? = some fn ∧ trFnD P ch fn = some (e.2.2.1, e.2.2.2) ∧ e.2.1 ≤ fn.ntmps ∧ callOk P e.1 = true
def TabROk (P : Program) (T : TabR) : Prop := ∀ e ∈ T, ∃ fn ch, P.funcs[e.1]? = some fn ∧ trRec P ch fn = some (e.2.2.1, e.2.2.2.1, e.2.2.2.2) ∧ e.2.1 ≤ fn.ntmps ∧ callOk P e.1 = true
theorem lk_mem {α : Type} : ∀ {l : List (Nat × α)} {k : Nat} {a : α}, lk l k = some a → (k, a) ∈ l
  | [], k, a, h => by simp [lk] at h
  | (k', a') :: l, k, a, h => by
    simp only [lk] at h
    split at h
    · rename_i e; subst e; injection h with h; subst h; simp
    · exact List.mem_cons_of_mem _ (lk_mem h)

def evQEnd (res : List ARes) : Option (QEx × St) → Option (QOut × Slots)
  | some (.nrm .normal, s) => match retVals s res with
    | some rs => some (.ret (oneOrTup rs), s.σ)
    | none => none
  | some (.nrm .ret, s) => match retVals s res with
    | some rs => some (.ret (oneOrTup rs), s.σ)
    | none => none
  | some (.pan x, s) => some (.pan x, s.σ)
  | _ => none
def evRec (R : TabR) (md : Modes) (cq : CallQ) (L : Nat) (t : TV) (rv : IV) (σ : Slots) : Option Slots := match fnParts t with
  | some (f, fs, cs) => match lk R f with
    | some (np, d1, d2, b) => if (fs ++ cs).length = np then (match evQC md cq L b { ρ := (d2, .iv rv) :: (d1, .iv rv) :: args0 (fs ++ cs) 0, σ := σ } with
      | some (.nrm .normal, s) => some s.σ
      | some (.nrm .ret, s) => some s.σ
      | _ => none) else none
    | none => none
  | none => none
def evDend (R : TabR) (md : Modes) (cq : CallQ) (L : Nat) (res : List ARes) (t : TV) (rv : IV) (s : St) : Option (QOut × Slots) := match evRec R md cq L t rv s.σ with
  | some σ3 => match retVals { s with σ := σ3 } res with
    | some rs => some (.ret (oneOrTup rs), σ3)
    | none => none
  | none => none
def evQD (R : TabR) (md : Modes) (cq : CallQ) (L : Nat) (res : List ARes) : ADef → St → Option (QOut × Slots)
  | .step a r, s => match evQC md cq L a s with
    | some (.nrm .normal, s1) => evQD R md cq L res r s1
    | some (.nrm (.exit _), _) => none
    | x => evQEnd res x
  | .dfr is x b, s => match evQR md cq is s with
    | some (.nrm .normal, s1) => match ev s1.ρ x with
      | some t => (match evQC md cq L b s1 with
        | some (.nrm .normal, s2) => evDend R md cq L res t .niliface s2
        | some (.nrm .ret, s2) => evDend R md cq L res t .niliface s2
        | some (.pan y, s2) => evDend R md cq L res t y s2
        | _ => none)
      | none => none
    | _ => none
def evQF (B : Base) (T : Tab) (TD : TabD) (R : TabR) (M : List (Nat × Nat)) (L : Nat) : Nat → CallQ
  | 0 => fun _ _ _ => none
  | n + 1 => fun f vs σ => match evBase B f vs σ with
    | some (r, σ') => some (.ret r, σ')
    | none => match lk T f with
      | some (np, af) => if vs.length = np then evQEnd af.res (evQC (modeOf M) (evQF B T TD R M L n) L af.code { ρ := args0 vs 0, σ := σ }) else none
      | none => match lk TD f with
        | some (np, ad, res) => if vs.length = np then evQD R (modeOf M) (evQF B T TD R M L n) L res ad { ρ := args0 vs 0, σ := σ } else none
        | none => none

/-! ### it is right -/
def RQ (K0 : Kr) (σ0 : Slots) (w0 : World) (o : QOut) (σ' : Slots) (e : Ending) (w' : World) : Prop :=
  ∃ v K', SlotsRel K' σ' w' ∧ Evo K0 σ0 w0 K' σ' w' ∧ (match o with
      | .ret r => e = .returned v ∧ TRel K' w' r v
      | .pan x => e = .panicked [{ v := v, recovered := false }] ∧ Rel K'.I w' x v)
section
variable {P : Program} {md : Modes} {cq : CallQ} {L : Nat} {R : TabR}
theorem start_rel {fn : Func} {args : List TV} {σ : Slots} {K : Kr} {w : World} {vs : Array Value} (hn : args.length ≤ fn.ntmps) (hs : SlotsRel K σ w) (hsz : vs.size = args.length) (hr : ∀ (q : Nat) (c : TV) (v : Value), args[q]? = some c → vs[q]? = some v → TRel K w c v) :
    SRel fn.ntmps K { ρ := args0 args 0, σ := σ } { tmps := vs ++ Array.replicate (fn.ntmps - vs.size) undef, defers := [] } w := by
  refine ⟨by simp; omega, ?_, hs⟩
  intro t v hv
  obtain ⟨h3, h4⟩ := lk_args0 hv
  have hlt : t < vs.size := by have := (List.getElem?_eq_some_iff.1 h4).1; omega
  exact ⟨vs[t], by rw [Array.getElem?_append_left hlt]; simp [hlt], hr t v vs[t] (by simpa using h4) (by simp [hlt])⟩
theorem evQEnd_ok {fn : Func} {res : List ARes} (htr : trRes P fn.results.toList = some res) {e : QEx} {s : St} {o : QOut} {σ' : Slots} (h : evQEnd res (some (e, s)) = some (o, σ')) {K0 : Kr} {σ0 : Slots} {w0 : World}
    {ex : Exit} {a : Act} {w : World} (hp : PostQ fn.ntmps K0 σ0 w0 [] e s ex a w) : bodyPost P fn (RQ K0 σ0 w0 o σ') ex a w ∧ ((ex = .normal ∨ ex = .ret) ∨ ∃ c, ex = .panic c) := by
  obtain ⟨K1, g1, g2, g3, g4⟩ := hp
  have ret : ∀ {ae : AEx}, e = .nrm ae → (match retVals s res with | some rs => some (QOut.ret (oneOrTup rs), s.σ) | none => none) = some (o, σ') → a.defers = [] ∧ ∃ v, (results fn a.tmps).run P w = .ok v w ∧ RQ K0 σ0 w0 o σ' (.returned v) w := by
    intro ae he h
    split at h
    · rename_i rs hrs
      injection h with h; injection h with h1 h2; subst h1; subst h2
      obtain ⟨v, hv, hvr⟩ := results_rel g1 htr hrs
      exact ⟨g3, v, hv, v, K1, g1.slots, g2, rfl, hvr⟩
    · cases h
  cases e with
  | nrm ae =>
    cases ae with
    | normal => cases g4; exact ⟨ret rfl h, .inl (.inl rfl)⟩
    | ret => cases g4; exact ⟨ret rfl h, .inl (.inr rfl)⟩
    | exit i => simp [evQEnd] at h
  | pan x =>
    simp only [evQEnd, Option.some.injEq, Prod.mk.injEq] at h
    obtain ⟨rfl, rfl⟩ := h
    obtain ⟨v, rfl, hv⟩ := g4
    exact ⟨⟨g3, v, K1, g1.slots, g2, rfl, hv⟩, .inr ⟨_, rfl⟩⟩
theorem GQ.of {f : FuncId} {fn : Func} {ch : List (Nat × List Nat)} {af : AFn} {args : List TV} {σ σ' : Slots} {o : QOut} (hc : CallIsQ P cq) (hf : P.funcs[f]? = some fn) (ht : trFn P ch fn = some af) (hn : args.length ≤ fn.ntmps)
    (h : evQEnd af.res (evQC md cq L af.code { ρ := args0 args 0, σ := σ }) = some (o, σ')) : GQ P f args σ o σ' := by
  intro K w vs hs hsz hr
  unfold trFn at ht
  split at ht
  · rename_i c hcb
    split at ht
    · rename_i ac rs h1 h2
      injection ht with ht; subst ht
      cases hx : evQC md cq L ac { ρ := args0 args 0, σ := σ } with
      | none => rw [hx] at h; simp [evQEnd] at h
      | some es =>
        obtain ⟨e, s'⟩ := es
        rw [hx] at h
        refine calls_of_wp hf hcb (wp_mono (evQC_ok hc c h1 (start_rel hn hs hsz hr) hx) ?_)
        intro ex a1 w1 hp
        exact (evQEnd_ok (fn := fn) h2 h hp).1
    · cases ht
  · cases ht

theorem mem_two {α : Type} {l : Array α} {a b : α} (h : l.toList = [a, b]) : l[0]? = some a ∧ l[1]? = some b ∧ l.size = 2 := by
  obtain ⟨l⟩ := l
  simp at h; subst h
  exact ⟨rfl, rfl, rfl⟩
/-- The deferred function, which recovers. -/
theorem evRec_ok (hc : CallIsQ P cq) (hR : TabROk P R) {t : TV} {rv : IV} {σ σ3 : Slots} {f : FuncId} {fs cs : List TV} (hp : fnParts t = some (f, fs, cs)) (h : evRec R md cq L t rv σ = some σ3) {K : Kr} {w : World} {vs : Array Value}
    (hs : SlotsRel K σ w) (hsz : vs.size = (fs ++ cs).length) (hr : ∀ (q : Nat) (c : TV) (v : Value), (fs ++ cs)[q]? = some c → vs[q]? = some v → TRel K w c v)
    {u : FrameMode} (hu : (u = .returning ∧ rv = .niliface) ∨ ∃ v, u = .panicking [{ v := v, recovered := false }] ∧ Rel K.I w rv v) :
    callOk P f = true ∧ CallsD P f vs u w fun e u' w' => (∃ v, e = .returned v) ∧ settle u' = .returning ∧ ∃ K3, SlotsRel K3 σ3 w' ∧ Evo K σ w K3 σ3 w' := by
  unfold evRec at h
  rw [hp] at h
  simp only at h
  split at h
  · rename_i np d1 d2 b hl
    split at h
    · rename_i hnp
      obtain ⟨fn, ch, g1, g2, g3, g4⟩ := hR _ (lk_mem hl)
      simp only at g1 g2 g3 g4
      refine ⟨g4, ?_⟩
      have hend : ∃ ae s3, (ae = .normal ∨ ae = .ret) ∧ s3.σ = σ3 ∧ evQC md cq L b { ρ := (d2, .iv rv) :: (d1, .iv rv) :: args0 (fs ++ cs) 0, σ := σ } = some (.nrm ae, s3) := by
        split at h
        · rename_i s h1; injection h with h; exact ⟨_, s, .inl rfl, h, h1⟩
        · rename_i s h1; injection h with h; exact ⟨_, s, .inr rfl, h, h1⟩
        · cases h
      obtain ⟨ae, s3, hae, hs3, hev⟩ := hend
      unfold trRec at g2
      split at g2
      · rename_i id ops cb hbody
        split at g2
        · rename_i o1 o2 hops
          split at g2
          · rename_i d1' t' d2' b' hd1 hd2 hb hres
            split at g2
            · rename_i hcond
              obtain ⟨rfl, hlt1, hlt2⟩ := hcond
              injection g2 with g2; injection g2 with e1 g2; injection g2 with e2 e3
              subst e1; subst e2; subst e3
              obtain ⟨q0, q1, q2⟩ := mem_two hops
              -- the two operations
              obtain ⟨op1, hg1, hdst1⟩ : (∃ ac, o1.op = .call { callee := .builtin .recover, args := #[], argTypes := ac }) ∧ o1.guard = none ∧ o1.dst = some t' := by
                unfold recDst at hd1
                split at hd1
                · rename_i c d hop hdst hg
                  split at hd1
                  · rename_i hcal hargs
                    injection hd1 with hd1; subst hd1
                    obtain ⟨callee, args, argTypes⟩ := c
                    simp only at hcal hargs; subst hcal
                    have : args = #[] := by apply Array.ext'; simpa using hargs
                    subst this
                    exact ⟨⟨argTypes, hop⟩, hg, hdst⟩
                  · cases hd1
                · cases hd1
              obtain ⟨ac1, op1⟩ := op1
              obtain ⟨op2, hg2, hdst2⟩ : o2.op = .assign (.tmp t') ∧ o2.guard = none ∧ o2.dst = some d2' := by
                unfold asgDst at hd2
                split at hd2
                · rename_i t0 d hop hdst hg
                  injection hd2 with hd2; injection hd2 with e1 e2; subst e1; subst e2
                  exact ⟨hop, hg, hdst⟩
                · cases hd2
              refine callsD_of_wpS g1 hbody ?_
              intro c0 cs0 hc0
              have hs0 := start_rel (fn := fn) (by omega) hs hsz hr
              have hrun1 : ∀ a : Act, (execOp a.eval o1).run P w = .ok .recover w := by
                intro a
                obtain ⟨d, op, ty, ps, af, g⟩ := o1
                simp only at op1; subst op1
                simp [execOp, resolve, invoke, builtin]
              have hrun2 : ∀ a : Act, (execOp a.eval o2).run P w = .ok (.value (a.eval (.tmp t'))) w := by
                intro a
                obtain ⟨d, op, ty, ps, af, g⟩ := o2
                simp only at op2; subst op2
                simp [execOp]
              -- behind the two
              have rest : ∀ (v : Value) (u' : FrameMode), Rel K.I w rv v → settle u' = .returning → cb.wpS P (bodyPostS P fn c0 cs0 fun e u' w' => (∃ v, e = .returned v) ∧ settle u' = .returning ∧ ∃ K3, SlotsRel K3 σ3 w' ∧ Evo K σ w K3 σ3 w')
                  ((({ tmps := vs ++ Array.replicate (fn.ntmps - vs.size) undef, defers := [] } : Act).put (some t') v).put (some d2') v) ({ c0 with mode := u' } :: cs0) w := by
                intro v u' hv hu'
                have s1 := TRel.put hs0 (Kr.Le.refl K w) hs (TRel.iv rv v hv) (dst := some t') (fun d e => by injection e with e; omega)
                have s2 := TRel.put s1 (Kr.Le.refl K w) hs (TRel.iv rv v hv) (dst := some d2') (fun d e => by injection e with e; omega)
                refine wpS_of_wp (wp_mono (evQC_ok hc cb hb s2 hev) ?_)
                rintro ex a2 w2 ⟨K2, p1, p2, p3, p4⟩
                obtain ⟨v2, hv2, _⟩ := results_rel (fn := fn) p1 hres (rs := []) (vs := []) rfl
                have hdd : a2.defers = [] := by rw [p3]; rfl
                subst hs3
                rcases hae with rfl | rfl
                · cases p4; exact ⟨hdd, u', rfl, v2, hv2, ⟨v2, rfl⟩, hu', K2, p1.slots, p2⟩
                · cases p4; exact ⟨hdd, u', rfl, v2, hv2, ⟨v2, rfl⟩, hu', K2, p1.slots, p2⟩
              refine wpS_seq (wpS_region ?_)
              rw [q2]
              have hwant1 : ∀ y, Region.wanted o1 y = true := fun y => by simp [Region.wanted, hg1]
              have hwant2 : ∀ y, Region.wanted o2 y = true := fun y => by simp [Region.wanted, hg2]
              show wpOpsS P ops _ [0, 1] _ _ w
              simp only [wpOpsS, q0, q1, hwant1, hwant2, if_true, hrun1, hrun2]
              have hev1 : ∀ (a : Act) (v : Value), t' < a.tmps.size → (a.put (some t') v).eval (.tmp t') = v := by
                intro a v hlt
                simp [Act.put, Act.eval, Array.getD, hlt]
              have hsz0 : t' < (vs ++ Array.replicate (fn.ntmps - vs.size) undef).size := by simp; omega
              rcases hu with ⟨rfl, rfl⟩ | ⟨v, rfl, hv⟩
              · have hrd : recoverD (c0 :: cs0) = none := by simp [recoverD, hc0]
                simp only [hrd, hdst1, hdst2, Oper.upon, hev1 { tmps := vs ++ Array.replicate (fn.ntmps - vs.size) undef, defers := [] } _ hsz0]
                have := rest .nilIface .returning .niliface rfl
                rw [show ({ c0 with mode := FrameMode.returning } : Frame) = c0 by rw [← hc0]] at this
                show cb.wpS P _ _ _ _
                exact this
              · have hrd : recoverD (c0 :: cs0) = some (v, { c0 with mode := .panicking [{ v := v, recovered := true }] } :: cs0) := by simp [recoverD, hc0]
                simp only [hrd, hdst1, hdst2, Oper.upon, hev1 { tmps := vs ++ Array.replicate (fn.ntmps - vs.size) undef, defers := [] } _ hsz0]
                show cb.wpS P _ _ _ _
                exact rest v _ hv (by simp [settle])
            · cases g2
          · cases g2
        · cases g2
      · cases g2
    · cases h
  · cases h

theorem evDend_ok (hc : CallIsQ P cq) (hR : TabROk P R) {fn : Func} {res : List ARes} (htr : trRes P fn.results.toList = some res) {t : TV} {rv : IV} {s : St} {o : QOut} {σ' : Slots} (h : evDend R md cq L res t rv s = some (o, σ'))
    {K0 : Kr} {σ0 : Slots} {w0 : World} {K : Kr} {a : Act} {w : World} (hs : SRel fn.ntmps K s a w) (hE : Evo K0 σ0 w0 K s.σ w) {f : FuncId} {fs cs : List TV} (hp : fnParts t = some (f, fs, cs)) {vf vc : Array Value}
    (h1 : vf.size = fs.length) (h2 : vc.size = cs.length) (h3 : ∀ (q : Nat) (c : TV) (u : Value), fs[q]? = some c → vf[q]? = some u → TRel K w c u) (h4 : ∀ (q : Nat) (c : TV) (u : Value), cs[q]? = some c → vc[q]? = some u → TRel K w c u)
    {u : FrameMode} (hu : (u = .returning ∧ rv = .niliface) ∨ ∃ v, u = .panicking [{ v := v, recovered := false }] ∧ Rel K.I w rv v) :
    Leaves P fn a.tmps (RQ K0 σ0 w0 o σ') [{ target := .fn (.func f) vc, args := vf }] u w := by
  unfold evDend at h
  split at h
  · rename_i σ3 hrec
    split at h
    · rename_i rs hrs
      injection h with h; injection h with e1 e2; subst e1; subst e2
      obtain ⟨hok, hcd⟩ := evRec_ok hc hR hp hrec (vs := vf ++ vc) hs.slots (by simp [h1, h2]) (fun q c v hq hv => by
        by_cases hlt : q < fs.length
        · rw [List.getElem?_append_left hlt] at hq
          rw [Array.getElem?_append_left (by omega)] at hv
          exact h3 q c v hq hv
        · rw [List.getElem?_append_right (by omega)] at hq
          rw [Array.getElem?_append_right (by omega), h1] at hv
          exact h4 _ c v hq hv) hu
      refine leaves_cons (f := f) (args := vf ++ vc) (by rcases hu with ⟨rfl, _⟩ | ⟨v, rfl, _⟩ <;> simp) (by simp [invoke, run_callFunc hok]) (hcd.mono ?_)
      rintro e u' w' ⟨⟨v0, rfl⟩, hset, K3, g1, g2⟩
      simp only [hset]
      have hs3 : SRel fn.ntmps K3 { s with σ := σ3 } a w' := ⟨hs.size, fun t v hv => by
        obtain ⟨u, hu, hur⟩ := hs.tmps t v hv
        exact ⟨u, hu, hur.mono g2.le⟩, g1⟩
      obtain ⟨v, hv, hvr⟩ := results_rel hs3 htr hrs
      exact ⟨v, hv, v, K3, g1, hE.trans g2, rfl, hvr⟩
    · cases h
  · cases h
theorem evQD_ok (hc : CallIsQ P cq) (hR : TabROk P R) {fn : Func} {res : List ARes} (htr : trRes P fn.results.toList = some res) {ch : List (Nat × List Nat)} {K0 : Kr} {σ0 : Slots} {w0 : World} {o : QOut} {σ' : Slots} : ∀ (c : Code) {ad : ADef} {s : St} {K : Kr} {a : Act} {w : World},
    trD P fn.ntmps ch c = some ad → SRel fn.ntmps K s a w → a.defers = [] → Evo K0 σ0 w0 K s.σ w → evQD R md cq L res ad s = some (o, σ') → c.wp P (bodyPostD P fn (RQ K0 σ0 w0 o σ')) a w := by
  intro c
  induction c with
  | seq x y ihx ihy =>
    intro ad s K a w ht hs hd hE h
    simp only [trD] at ht
    split at ht
    · rename_i x' hx
      split at ht
      · rename_i r hr
        injection ht with ht; subst ht
        simp only [evQD] at h
        split at h
        · rename_i s1 h1
          refine wp_seq (wp_mono (evQC_ok hc x hx hs h1) ?_)
          rintro ex a1 w1 ⟨K1, g1, g2, g3, he⟩
          cases he
          exact ihy hr g1 (g3.trans hd) (hE.trans g2) h
        · cases h
        · rename_i xx hn1 hn2
          cases hxx : evQC md cq L x' s with
          | none => rw [hxx] at h; simp [evQEnd] at h
          | some es =>
            obtain ⟨e, s'⟩ := es
            rw [hxx] at h
            refine wp_seq (wp_mono (evQC_ok hc x hx hs hxx) ?_)
            rintro ex a1 w1 ⟨K1, g1, g2, g3, he⟩
            have hpost : PostQ fn.ntmps K0 σ0 w0 [] e s' ex a1 w1 := ⟨K1, g1, hE.trans g2, g3.trans hd, he⟩
            obtain ⟨hb, hex⟩ := evQEnd_ok (fn := fn) htr h hpost
            cases e with
            | nrm ae =>
              cases ae with
              | normal => exact absurd hxx (hn1 s')
              | exit i => exact absurd hxx (hn2 i s')
              | ret =>
                cases he
                obtain ⟨q1, v, q2, q3⟩ := hb
                show Leaves P fn a1.tmps _ a1.defers .returning w1
                rw [q1]
                exact ⟨v, q2, q3⟩
            | pan x0 =>
              obtain ⟨v, rfl, hv⟩ := he
              obtain ⟨q1, q2⟩ := hb
              show Leaves P fn a1.tmps _ a1.defers (.panicking _) w1
              rw [q1]
              exact q2
      · cases ht
    · split at ht
      · rename_i id ops hnone
        split at ht
        · rename_i l o0 hsp
          split at ht
          · rename_i x0 is b' hdf hall hb
            injection ht with ht; subst ht
            have hops := splitLast_is hsp
            simp only [evQD] at h
            split at h
            · rename_i s1 h1
              split at h
              · rename_i t hev
                -- the deferring
                obtain ⟨xo, hop, hdst, hg, htx⟩ : ∃ xo, (∃ ac, o0.op = .defer { callee := .value xo, args := #[], argTypes := ac }) ∧ o0.dst = none ∧ o0.guard = none ∧ trOpd xo = some x0 := by
                  unfold dferOf at hdf
                  split at hdf
                  · rename_i c hop hdst hg
                    split at hdf
                    · rename_i xo hcal hargs
                      obtain ⟨callee, args, argTypes⟩ := c
                      simp only at hcal hargs; subst hcal
                      have : args = #[] := by apply Array.ext'; simpa using hargs
                      subst this
                      exact ⟨xo, ⟨argTypes, hop⟩, hdst, hg, hdf⟩
                    · cases hdf
                  · cases hdf
                obtain ⟨ac, hop⟩ := hop
                have hfn : ∃ f fs cs, fnParts t = some (f, fs, cs) := by
                  have key : ∀ rv s2, evDend R md cq L res t rv s2 = some (o, σ') → ∃ f fs cs, fnParts t = some (f, fs, cs) := by
                    intro rv s2 hx
                    unfold evDend evRec at hx
                    cases hfp : fnParts t with
                    | none => rw [hfp] at hx; simp at hx
                    | some p => exact ⟨p.1, p.2.1, p.2.2, rfl⟩
                  split at h
                  · exact key _ _ h
                  · exact key _ _ h
                  · exact key _ _ h
                  · cases h
                obtain ⟨f, fs, cs, hfp⟩ := hfn
                have hreg := evQR_ok (P := P) (N := fn.ntmps) (ops := ops) (Q := Exit.then (fun a1 w1 => y.wp P (bodyPostD P fn (RQ K0 σ0 w0 o σ')) a1 w1) (bodyPostD P fn (RQ K0 σ0 w0 o σ'))) hc [o0] hall hs h1 (fun _ K1 a1 w1 q1 q2 q3 => by
                  have hrt := ev_rel q1 htx hev
                  obtain ⟨vf, vc, hval, z1, z2, z3, z4⟩ := fnParts_rel hfp hrt
                  unfold wpList
                  rw [if_pos (by simp [Region.wanted, hg])]
                  refine .inl ?_
                  have hrun : (execOp a1.eval o0).run P w1 = .ok (.defer { target := .fn (.func f) vc, args := vf }) w1 := by
                    obtain ⟨d, op, ty, ps, af, g⟩ := o0
                    simp only at hop; subst hop
                    simp [execOp, resolve, hval, Deferred.ofValue]
                  unfold Oper.wp
                  rw [hrun]
                  show y.wp P _ (Act.put { a1 with defers := { target := .fn (.func f) vc, args := vf } :: a1.defers } o0.dst undef) w1
                  rw [hdst]
                  show y.wp P _ { a1 with defers := { target := .fn (.func f) vc, args := vf } :: a1.defers } w1
                  rw [q3, hd]
                  have q1' : SRel fn.ntmps K1 s1 { a1 with defers := [{ target := .fn (.func f) vc, args := vf }] } w1 := ⟨q1.size, q1.tmps, q1.slots⟩
                  -- what is done behind, and the end
                  have fin : ∀ {e2 : QEx} {s2 : St} {rv : IV}, evQC md cq L b' s1 = some (e2, s2) → evDend R md cq L res t rv s2 = some (o, σ') → ((e2 = .nrm .normal ∨ e2 = .nrm .ret) ∧ rv = .niliface ∨ e2 = .pan rv) →
                      y.wp P (bodyPostD P fn (RQ K0 σ0 w0 o σ')) { a1 with defers := [{ target := .fn (.func f) vc, args := vf }] } w1 := by
                    intro e2 s2 rv hb2 hde hcase
                    refine wp_mono (evQC_ok hc y hb q1' hb2) ?_
                    rintro ex a2 w2 ⟨K2, p1, p2, p3, p4⟩
                    have z3' : ∀ (q : Nat) (c : TV) (u : Value), fs[q]? = some c → vf[q]? = some u → TRel K2 w2 c u := fun q c u g1 g2 => (z3 q c u g1 g2).mono p2.le
                    have z4' : ∀ (q : Nat) (c : TV) (u : Value), cs[q]? = some c → vc[q]? = some u → TRel K2 w2 c u := fun q c u g1 g2 => (z4 q c u g1 g2).mono p2.le
                    have hE2 := (hE.trans q2).trans p2
                    rcases hcase with ⟨rfl | rfl, rfl⟩ | rfl
                    · cases p4
                      show Leaves P fn a2.tmps _ a2.defers .returning w2
                      rw [p3]
                      exact evDend_ok hc hR htr hde p1 hE2 hfp z1 z2 z3' z4' (.inl ⟨rfl, rfl⟩)
                    · cases p4
                      show Leaves P fn a2.tmps _ a2.defers .returning w2
                      rw [p3]
                      exact evDend_ok hc hR htr hde p1 hE2 hfp z1 z2 z3' z4' (.inl ⟨rfl, rfl⟩)
                    · obtain ⟨v, rfl, hv⟩ := p4
                      show Leaves P fn a2.tmps _ a2.defers (.panicking _) w2
                      rw [p3]
                      exact evDend_ok hc hR htr hde p1 hE2 hfp z1 z2 z3' z4' (.inr ⟨v, rfl, hv⟩)
                  split at h
                  · rename_i s2 hb2; exact fin hb2 h (.inl ⟨.inl rfl, rfl⟩)
                  · rename_i s2 hb2; exact fin hb2 h (.inl ⟨.inr rfl, rfl⟩)
                  · rename_i y0 s2 hb2; exact fin hb2 h (.inr rfl)
                  · cases h) (fun x0 e0 => by cases e0) (evQR_nrm h1)
                rw [← hops] at hreg
                exact wp_seq (wp_region_list hreg)
              · cases h
            · cases h
          · cases ht
        · cases ht
      · cases ht
  | _ => intro ad s K a w ht; simp [trD] at ht
theorem GQ.ofD {f : FuncId} {fn : Func} {ch : List (Nat × List Nat)} {ad : ADef} {res : List ARes} {args : List TV} {σ σ' : Slots} {o : QOut} (hc : CallIsQ P cq) (hR : TabROk P R) (hf : P.funcs[f]? = some fn) (ht : trFnD P ch fn = some (ad, res)) (hn : args.length ≤ fn.ntmps)
    (h : evQD R md cq L res ad { ρ := args0 args 0, σ := σ } = some (o, σ')) : GQ P f args σ o σ' := by
  intro K w vs hs hsz hr
  unfold trFnD at ht
  split at ht
  · rename_i c hcb
    split at ht
    · rename_i ad' rs h1 h2
      injection ht with ht; injection ht with e1 e2; subst e1; subst e2
      exact calls_of_wp_defers hf hcb (evQD_ok hc hR (fn := fn) h2 c h1 (start_rel hn hs hsz hr) rfl (Evo.refl _ _ _) h)
    · cases ht
  · cases ht
end
theorem evQF_ok {P : Program} {B : Base} (hB : BaseOk P B) {T : Tab} (hT : TabOk P T) {TD : TabD} (hTD : TabDOk P TD) {R : TabR} (hR : TabROk P R) (M : List (Nat × Nat)) (L : Nat) : ∀ n, CallIsQ P (evQF B T TD R M L n)
  | 0, f, vs, σ, o, σ', h => by simp [evQF] at h
  | n + 1, f, vs, σ, o, σ', h => by
    simp only [evQF] at h
    split at h
    · rename_i r0 σ0 hb
      injection h with h; injection h with h1 h2; subst h1; subst h2
      have := evBase_ok hB _ _ _ _ _ hb
      exact ⟨this.1, this.2.gq⟩
    split at h
    · rename_i np af hl
      obtain ⟨fn, ch, h1, h2, h3, h4⟩ := hT.get hl
      split at h
      · rename_i hlen
        exact ⟨h4, GQ.of (evQF_ok hB hT hTD hR M L n) h1 h2 (by omega) h⟩
      · cases h
    · split at h
      · rename_i np ad res hl
        obtain ⟨fn, ch, h1, h2, h3, h4⟩ := hTD _ (lk_mem hl)
        simp only at h1 h2 h3 h4
        split at h
        · rename_i hlen
          exact ⟨h4, GQ.ofD (evQF_ok hB hT hTD hR M L n) hR h1 h2 (by omega) h⟩
        · cases h
      · cases h
/-- The calls that return. -/
def evP (B : Base) (T : Tab) (TD : TabD) (R : TabR) (M : List (Nat × Nat)) (L n : Nat) : CallF := normQ (evQF B T TD R M L n)
theorem FC.ofGivesP {P : Program} {B : Base} (hB : BaseOk P B) {T : Tab} (hT : TabOk P T) {TD : TabD} (hTD : TabDOk P TD) {R : TabR} (hR : TabROk P R) {M : List (Nat × Nat)} {L n : Nat} {f : FuncId} {xs : List IV} {y : IV} (h : givesIv (evP B T TD R M L n f (xs.map .iv) []) y = true) : FC P f xs (· = y) := by
  unfold givesIv at h
  split at h
  · rename_i z hz
    rw [← eqIV_ok h]
    exact evShut_fc (normQ_ok (evQF_ok hB hT hTD hR M L n)) hz
  · cases h
theorem FC.ofEvP {P : Program} {B : Base} (hB : BaseOk P B) {T : Tab} (hT : TabOk P T) {TD : TabD} (hTD : TabDOk P TD) {R : TabR} (hR : TabROk P R) {M : List (Nat × Nat)} {L n : Nat} {f : FuncId} (h : saysTrue (evP B T TD R M L n f [] []) = true) : FC P f [] (· = .bool true) := by
  unfold saysTrue at h
  split at h
  · rename_i σ' he
    refine .ofGC ((normQ_ok (evQF_ok hB hT hTD hR M L n) _ _ _ _ _ he).2.mono ?_)
    rintro r σ ⟨rfl, rfl⟩
    exact ⟨_, _, rfl, rfl⟩
  · cases h
end Go.Proofs.YtdlgenppdgkacaaGreatDoor.Ag
