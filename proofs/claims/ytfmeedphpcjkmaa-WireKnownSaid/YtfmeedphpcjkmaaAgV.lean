/- The evaluator: a function's code run without memory; what it gives is what the model does. -/
import Derived.Test.YtfmeedphpcjkmaaAg16
set_option linter.unusedVariables false
set_option linter.unusedSimpArgs false
namespace Go.Proofs.Ytfmeedphpcjkmaa.Ag
open Go.RowKit (Below)

abbrev CallF := FuncId → List TV → Slots → Option (TV × Slots)
def allIv : List TV → Bool
  | [] => true
  | .iv _ :: l => allIv l
  | _ :: _ => false
def evShut : Option (TV × Slots) → Option IV
  | some (r, σ') => match shut r σ' with
    | some (x, _) => some x
    | none => none
  | none => none
/-- How a call of a function is done: 0 with the places as they are, 1 by reading alone, 2 with the arguments sealed. -/
abbrev Modes := FuncId → Nat
def evCall (call : CallF) (f : FuncId) (σ : Slots) (mode : Nat) : Option (List TV) → Option (TV × Slots)
  | some vs => if mode = 0 ∨ allIv vs = true then call f vs σ else match shutAll vs σ with
      | some (xs, σ1) => if mode = 1 then match evShut (call f (xs.map .iv) []) with
          | some x => if ground x then some (.iv x, σ) else none
          | none => none
        else call f (xs.map .iv) σ1
      | none => call f vs σ
  | none => none
def evCallv (call : CallF) (σ : Slots) : Option TV → Option (List TV) → Option (TV × Slots)
  | some t, some vs => match fnParts t with
    | some (f, fs, cs) => call f (fs ++ vs ++ cs) σ
    | none => none
  | _, _ => none
def evOp (md : Modes) (call : CallF) (ρ : List (Nat × TV)) (σ : Slots) : AOp → Option (TV × Slots)
  | .call f as_ => evCall call f σ (md f) (evAll ρ as_)
  | .callv x as_ => evCallv call σ (ev ρ x) (evAll ρ as_)
  | o => aop ρ σ (setK σ.length o)
/-- .. one that touches no place. -/
def evArgs : Option (List TV) → Option (List IV)
  | some vs => match shutAll vs [] with
    | some (xs, []) => some xs
    | _ => none
  | none => none
def evFree (call : CallF) (ρ : List (Nat × TV)) : AOp → Option TV
  | .call f as_ => match evArgs (evAll ρ as_) with
    | some xs => match evShut (call f (xs.map .iv) []) with
      | some x => some (.iv x)
      | none => none
    | none => none
  | o => match aop ρ [] o with
    | some (r, []) => some r
    | _ => none
def evR (md : Modes) (call : CallF) : List AIns → St → Option St
  | [], s => some s
  | i :: is, s => match i.guard with
    | none => match evOp md call s.ρ s.σ i.op with
      | some (r, σ') => evR md call is ({ s with σ := σ' }.put i.dst r)
      | none => none
    | some (t, want) => match lk s.ρ t with
      | some (.iv (.bool b)) => if b = want then (match evOp md call s.ρ s.σ i.op with
          | some (r, σ') => evR md call is ({ s with σ := σ' }.put i.dst r)
          | none => none)
        else evR md call is (s.put i.dst .dead)
      | _ => none
def evD1 (md : Modes) (call : CallF) (b : Bool) (i : AIns) (s : St) : Option St :=
  if b then match evOp md call s.ρ s.σ i.op with
    | some (r, σ') => some ({ s with σ := σ' }.put i.dst r)
    | none => none
  else match evFree call s.ρ i.op with
    | some r => some (s.put i.dst r)
    | none => none
def evD (md : Modes) (call : CallF) (bd : List Nat) : Nat → List AIns → St → Option St
  | _, [], s => some s
  | k, i :: is, s => match i.guard with
    | none => match evD1 md call (bd.contains k) i s with
      | some s' => evD md call bd (k + 1) is s'
      | none => none
    | some (t, want) => match lk s.ρ t with
      | some (.iv (.bool b)) => if b = want then (match evD1 md call (bd.contains k) i s with
          | some s' => evD md call bd (k + 1) is s'
          | none => none)
        else evD md call bd (k + 1) is (s.put i.dst .dead)
      | _ => none
def evLoop (g : St → Option (AEx × St)) : Nat → St → Option (AEx × St)
  | 0, _ => none
  | n + 1, s => match g s with
    | some (.normal, s') => evLoop g n s'
    | r => r
def evC (md : Modes) (call : CallF) (L : Nat) : ACode → St → Option (AEx × St)
  | .skip, s => some (.normal, s)
  | .region is, s => match evR md call is s with
    | some s' => some (.normal, s')
    | none => none
  | .draw bd is, s => match evD md call bd 0 is s with
    | some s' => some (.normal, s')
    | none => none
  | .seq a b, s => match evC md call L a s with
    | some (.normal, s') => evC md call L b s'
    | r => r
  | .cond c a b, s => match ev s.ρ c with
    | some (.iv (.bool true)) => evC md call L a s
    | some (.iv (.bool false)) => evC md call L b s
    | _ => none
  | .block id a, s => match evC md call L a s with
    | some (.exit i, s') => if i = id then some (.normal, s') else some (.exit i, s')
    | r => r
  | .loop a, s => evLoop (evC md call L a) L s
  | .exit id, s => some (.exit id, s)
  | .scope a, s => evC md call L a s
  | .label, s => some (.normal, s)
  | .ret, s => some (.ret, s)
abbrev Tab := List (Nat × (Nat × AFn))
def modeOf (M : List (Nat × Nat)) (f : FuncId) : Nat := (lk M f).getD 2
def evEnd (af : AFn) : Option (AEx × St) → Option (TV × Slots)
  | some (.normal, s) => match retVals s af.res with
    | some rs => some (oneOrTup rs, s.σ)
    | none => none
  | some (.ret, s) => match retVals s af.res with
    | some rs => some (oneOrTup rs, s.σ)
    | none => none
  | _ => none
def evF (T : Tab) (M : List (Nat × Nat)) (L : Nat) : Nat → CallF
  | 0 => fun _ _ _ => none
  | n + 1 => fun f vs σ => match lk T f with
    | some (np, af) => if vs.length = np then evEnd af (evC (modeOf M) (evF T M L n) L af.code { ρ := args0 vs 0, σ := σ }) else none
    | none => none

/-! ### it is right -/
def CallIs (P : Program) (call : CallF) : Prop := ∀ f vs σ r σ', call f vs σ = some (r, σ') → callOk P f = true ∧ GC P f vs σ (fun r' σ'' => r' = r ∧ σ'' = σ')

theorem evShut_fc {P : Program} {call : CallF} (hc : CallIs P call) {f : FuncId} {xs : List IV} {x : IV} (hx : evShut (call f (xs.map .iv) []) = some x) : FC P f xs (· = x) := by
  unfold evShut at hx
  split at hx
  · rename_i r0 σ0 hcall
    split at hx
    · rename_i x' σ1 hsh2
      injection hx with hx; subst hx
      refine .ofGC ((hc _ _ _ _ _ hcall).2.mono ?_)
      rintro r' σ'' ⟨rfl, rfl⟩
      exact ⟨x', _, hsh2, rfl⟩
    · cases hx
  · cases hx
theorem evOp_step {P : Program} {md : Modes} {call : CallF} (hc : CallIs P call) {s : St} {o : AOp} {r : TV} {σ' : Slots} (h : evOp md call s.ρ s.σ o = some (r, σ')) : ∃ R, Step P s o R ∧ ∀ r' σ'', R r' σ'' → r' = r ∧ σ'' = σ' := by
  cases o
  case call f as_ =>
    simp only [evOp] at h
    cases hvs : evAll s.ρ as_ with
    | none => rw [hvs] at h; cases h
    | some vs =>
      rw [hvs] at h
      simp only [evCall] at h
      split at h
      · exact ⟨_, .callG f as_ vs _ hvs (hc _ _ _ _ _ h).2, fun _ _ h => h⟩
      · split at h
        · rename_i xs σ1 hsh
          split at h
          · split at h
            · rename_i x hx
              split at h
              · rename_i hg
                simp at h; obtain ⟨rfl, rfl⟩ := h
                refine ⟨_, .callP f as_ vs xs σ1 _ hvs hsh (evShut_fc hc hx) (by rintro y rfl; exact hg), ?_⟩
                rintro r' σ'' ⟨⟨y, rfl, rfl⟩, rfl⟩; exact ⟨rfl, rfl⟩
              · cases h
            · cases h
          · exact ⟨_, .callGF f as_ vs xs σ1 _ hvs hsh (hc _ _ _ _ _ h).2, fun _ _ h => h⟩
        · exact ⟨_, .callG f as_ vs _ hvs (hc _ _ _ _ _ h).2, fun _ _ h => h⟩
  case callv x as_ =>
    simp only [evOp] at h
    cases hx : ev s.ρ x with
    | none => rw [hx] at h; cases h
    | some t =>
      cases hvs : evAll s.ρ as_ with
      | none => rw [hx, hvs] at h; cases h
      | some vs =>
        rw [hx, hvs] at h
        simp only [evCallv] at h
        split at h
        · rename_i f fs cs hp
          exact ⟨_, .callvG x f _ fs cs as_ vs _ hx hp (hc _ _ _ _ _ h).1 hvs (hc _ _ _ _ _ h).2, fun _ _ h => h⟩
        · cases h
  all_goals exact ⟨_, .opK s.σ.length _ r σ' h, fun _ _ h => h⟩
theorem evOp_bstep {P : Program} {md : Modes} {call : CallF} (hc : CallIs P call) {ρ : List (Nat × TV)} {σ : Slots} {o : AOp} {r : TV} {σ' : Slots} (h : evOp md call ρ σ o = some (r, σ')) : BStep P ρ σ o r σ' := by
  cases o
  case call f as_ =>
    simp only [evOp] at h
    cases hvs : evAll ρ as_ with
    | none => rw [hvs] at h; cases h
    | some vs =>
      rw [hvs] at h
      simp only [evCall] at h
      split at h
      · exact .callG f as_ vs _ _ hvs (hc _ _ _ _ _ h).2
      · split at h
        · rename_i xs σ1 hsh
          split at h
          · split at h
            · rename_i x hx
              split at h
              · rename_i hg
                simp at h; obtain ⟨rfl, rfl⟩ := h
                exact .callP f as_ vs xs σ1 x hvs hsh (evShut_fc hc hx) hg
              · cases h
            · cases h
          · exact .callGF f as_ vs xs σ1 _ _ hvs hsh (hc _ _ _ _ _ h).2
        · exact .callG f as_ vs _ _ hvs (hc _ _ _ _ _ h).2
  case callv x as_ =>
    simp only [evOp] at h
    cases hx : ev ρ x with
    | none => rw [hx] at h; cases h
    | some t =>
      cases hvs : evAll ρ as_ with
      | none => rw [hx, hvs] at h; cases h
      | some vs =>
        rw [hx, hvs] at h
        simp only [evCallv] at h
        split at h
        · rename_i f fs cs hp
          exact .callvG x f _ fs cs as_ vs _ _ hx hp (hc _ _ _ _ _ h).1 hvs (hc _ _ _ _ _ h).2
        · cases h
  all_goals exact .opK σ.length _ r σ' h
theorem evFree_step {P : Program} {call : CallF} (hc : CallIs P call) {ρ : List (Nat × TV)} {o : AOp} {r : TV} (h : evFree call ρ o = some r) : FStep P ρ o r := by
  cases o
  case call f as_ =>
    simp only [evFree] at h
    split at h
    · rename_i xs hxs
      split at h
      · rename_i x hx
        injection h with h; subst h
        unfold evArgs at hxs
        split at hxs
        · rename_i vs hvs
          split at hxs
          · rename_i xs' hsh
            injection hxs with hxs; subst hxs
            unfold evShut at hx
            split at hx
            · rename_i r0 σ0 hcall
              split at hx
              · rename_i x' σ1 hsh2
                injection hx with hx; subst hx
                refine .call f as_ vs xs' x' hvs hsh (.ofGC ((hc _ _ _ _ _ hcall).2.mono ?_))
                rintro r' σ'' ⟨rfl, rfl⟩
                exact ⟨x', _, hsh2, rfl⟩
              · cases hx
            · cases hx
          · cases hxs
        · cases hxs
      · cases h
    · cases h
  all_goals
    simp only [evFree] at h
    split at h
    · rename_i r' hop
      injection h with h; subst h
      exact .op _ _ hop
    · cases h

theorem evR_ok {P : Program} {md : Modes} {call : CallF} (hc : CallIs P call) {K : St → Prop} : ∀ {is : List AIns} {s s' : St}, evR md call is s = some s' → K s' → wpr P is K s
  | [], s, s', h, hk => by simp [evR] at h; subst h; exact hk
  | i :: is, s, s', h, hk => by
    simp only [evR] at h
    have one : ∀ {r σ'}, evOp md call s.ρ s.σ i.op = some (r, σ') → evR md call is ({ s with σ := σ' }.put i.dst r) = some s' → ∃ R, Step P s i.op R ∧ ∀ r σ', R r σ' → wpr P is K ({ s with σ := σ' }.put i.dst r) := by
      intro r σ' h1 h2
      obtain ⟨R, g1, g2⟩ := evOp_step hc h1
      refine ⟨R, g1, fun r' σ'' hr => ?_⟩
      obtain ⟨rfl, rfl⟩ := g2 r' σ'' hr
      exact evR_ok hc h2 hk
    split at h
    · rename_i hg
      split at h
      · rename_i r σ' hop
        simp only [wpr, hg]
        exact one hop h
      · cases h
    · rename_i t want hg
      split at h
      · rename_i b hb
        simp only [wpr, hg]
        split at h
        · rename_i hbw
          split at h
          · rename_i r σ' hop
            exact ⟨b, hb, .inl ⟨fun _ => one hop h, fun hn => absurd hbw hn⟩⟩
          · cases h
        · rename_i hbw
          exact ⟨b, hb, .inl ⟨fun hb' => absurd hb' hbw, fun _ => evR_ok hc h hk⟩⟩
      · cases h

theorem evD1_ok {P : Program} {md : Modes} {call : CallF} (hc : CallIs P call) {b : Bool} {i : AIns} {s s' : St} (h : evD1 md call b i s = some s') :
    (b = false ∧ ∃ r, FStep P s.ρ i.op r ∧ s' = s.put i.dst r) ∨ (b = true ∧ ∃ r σ', BStep P s.ρ s.σ i.op r σ' ∧ s' = ({ s with σ := σ' }.put i.dst r)) := by
  unfold evD1 at h
  split at h
  · rename_i hb
    split at h
    · rename_i r σ' hop
      injection h with h; subst h
      exact .inr ⟨hb, r, σ', evOp_bstep hc hop, rfl⟩
    · cases h
  · rename_i hb
    split at h
    · rename_i r hop
      injection h with h; subst h
      exact .inl ⟨by simpa using hb, r, evFree_step hc hop, rfl⟩
    · cases h
theorem evD_ok {P : Program} {md : Modes} {call : CallF} (hc : CallIs P call) {bd : List Nat} {K : St → Prop} : ∀ {is : List AIns} {k : Nat} {s s' : St}, evD md call bd k is s = some s' → K s' → wprd P bd k is K s
  | [], k, s, s', h, hk => by simp [evD] at h; subst h; exact hk
  | i :: is, k, s, s', h, hk => by
    simp only [evD] at h
    split at h
    · rename_i hg
      split at h
      · rename_i s1 h1
        exact ⟨s1, by simp only [DStep, hg]; exact evD1_ok hc h1, evD_ok hc h hk⟩
      · cases h
    · rename_i t want hg
      split at h
      · rename_i b hb
        split at h
        · rename_i hbw
          split at h
          · rename_i s1 h1
            exact ⟨s1, by simp only [DStep, hg]; exact ⟨b, hb, fun _ => evD1_ok hc h1, fun hn => absurd hbw hn⟩, evD_ok hc h hk⟩
          · cases h
        · rename_i hbw
          exact ⟨_, by simp only [DStep, hg]; exact ⟨b, hb, fun hb' => absurd hb' hbw, fun _ => by first | rfl | trivial⟩, evD_ok hc h hk⟩
      · cases h

theorem evC_ok {P : Program} {md : Modes} {call : CallF} {L : Nat} (hc : CallIs P call) : ∀ (c : ACode) {Q : AEx → St → Prop} {s s' : St} {e : AEx}, evC md call L c s = some (e, s') → Q e s' → wpc P c Q s
  | .skip, Q, s, s', e, h, hq => by simp [evC] at h; obtain ⟨rfl, rfl⟩ := h; exact hq
  | .region is, Q, s, s', e, h, hq => by
    simp only [evC] at h
    split at h
    · rename_i s1 h1
      simp at h; obtain ⟨rfl, rfl⟩ := h
      exact ⟨s.ρ, fun _ _ h => h, evR_ok hc h1 hq⟩
    · cases h
  | .draw bd is, Q, s, s', e, h, hq => by
    simp only [evC] at h
    split at h
    · rename_i s1 h1
      simp at h; obtain ⟨rfl, rfl⟩ := h
      exact evD_ok hc h1 hq
    · cases h
  | .seq a b, Q, s, s', e, h, hq => by
    simp only [evC] at h
    show wpc P a (thenC (wpc P b Q) Q) s
    split at h
    · rename_i s1 h1
      exact evC_ok hc a h1 (evC_ok hc b h hq)
    · rename_i hne
      refine evC_ok hc a h ?_
      cases e with
      | normal => exact (hne _ h).elim
      | exit id => exact hq
      | ret => exact hq
  | .cond c a b, Q, s, s', e, h, hq => by
    simp only [evC] at h
    split at h
    · rename_i hb
      exact ⟨true, hb, fun _ => evC_ok hc a h hq, fun h0 => absurd h0 (by simp)⟩
    · rename_i hb
      exact ⟨false, hb, fun h0 => absurd h0 (by simp), fun _ => evC_ok hc b h hq⟩
    · cases h
  | .block id a, Q, s, s', e, h, hq => by
    simp only [evC] at h
    show wpc P a (blockC id Q) s
    split at h
    · rename_i i s1 h1
      refine evC_ok hc a h1 ?_
      simp only [blockC]
      split at h
      · rename_i e1
        simp at h; obtain ⟨rfl, rfl⟩ := h
        rw [if_pos e1]; exact hq
      · rename_i e1
        simp at h; obtain ⟨rfl, rfl⟩ := h
        rw [if_neg e1]; exact hq
    · rename_i hne
      refine evC_ok hc a h ?_
      cases e with
      | normal => exact hq
      | exit i => exact (hne _ _ h).elim
      | ret => exact hq
  | .loop a, Q, s, s', e, h, hq => by
    simp only [evC] at h
    refine ⟨fun n s => ∃ e s', evLoop (evC md call L a) n s = some (e, s') ∧ Q e s', L, ⟨e, s', h, hq⟩, ?_⟩
    rintro n s1 ⟨e1, s2, h1, h2⟩
    cases n with
    | zero => simp [evLoop] at h1
    | succ n =>
      simp only [evLoop] at h1
      split at h1
      · rename_i s3 h3
        exact evC_ok hc a h3 ⟨n, by omega, e1, s2, h1, h2⟩
      · rename_i hne
        refine evC_ok hc a h1 ?_
        cases e1 with
        | normal => exact (hne _ h1).elim
        | exit i => exact h2
        | ret => exact h2
  | .exit id, Q, s, s', e, h, hq => by simp [evC] at h; obtain ⟨rfl, rfl⟩ := h; exact hq
  | .scope a, Q, s, s', e, h, hq => by simp only [evC] at h; exact evC_ok hc a h hq
  | .label, Q, s, s', e, h, hq => by simp [evC] at h; obtain ⟨rfl, rfl⟩ := h; exact hq
  | .ret, Q, s, s', e, h, hq => by simp [evC] at h; obtain ⟨rfl, rfl⟩ := h; exact hq

/-- What a table of functions is. -/
inductive TabOk (P : Program) : Tab → Prop
  | nil : TabOk P []
  | cons {f np : Nat} {af : AFn} {T : Tab} (fn : Func) (ch : List (Nat × List Nat)) (hf : P.funcs[f]? = some fn) (ht : trFn P ch fn = some af) (hn : np ≤ fn.ntmps) (hc : callOk P f = true) (h : TabOk P T) : TabOk P ((f, (np, af)) :: T)
theorem TabOk.get {P : Program} {T : Tab} (h : TabOk P T) {f np : Nat} {af : AFn} (hl : lk T f = some (np, af)) : ∃ fn ch, P.funcs[f]? = some fn ∧ trFn P ch fn = some af ∧ np ≤ fn.ntmps ∧ callOk P f = true := by
  induction h with
  | nil => simp [lk] at hl
  | cons fn ch hf ht hn hc h ih =>
    simp only [lk] at hl
    split at hl
    · rename_i e; subst e; injection hl with hl; injection hl with h1 h2; subst h1; subst h2
      exact ⟨fn, ch, hf, ht, hn, hc⟩
    · exact ih hl

theorem evF_ok {P : Program} {T : Tab} (hT : TabOk P T) (M : List (Nat × Nat)) (L : Nat) : ∀ n, CallIs P (evF T M L n)
  | 0, f, vs, σ, r, σ', h => by simp [evF] at h
  | n + 1, f, vs, σ, r, σ', h => by
    simp only [evF] at h
    split at h
    · rename_i np af hl
      obtain ⟨fn, ch, h1, h2, h3, h4⟩ := hT.get hl
      split at h
      · rename_i hlen
        refine ⟨h4, GC.of h1 h2 (by omega) ?_⟩
        unfold evEnd at h
        split at h
        · rename_i s hs
          split at h
          · rename_i rs hrs
            simp at h; obtain ⟨rfl, rfl⟩ := h
            exact evC_ok (evF_ok hT M L n) af.code hs ⟨trivial, rs, hrs, rfl, rfl⟩
          · cases h
        · rename_i s hs
          split at h
          · rename_i rs hrs
            simp at h; obtain ⟨rfl, rfl⟩ := h
            exact evC_ok (evF_ok hT M L n) af.code hs ⟨trivial, rs, hrs, rfl, rfl⟩
          · cases h
        · cases h
      · cases h
    · cases h

/-- A closed call that comes to 'true'. -/
def saysTrue : Option (TV × Slots) → Bool
  | some (.iv (.bool true), _) => true
  | _ => false
theorem FC.ofEv {P : Program} {T : Tab} (hT : TabOk P T) {M : List (Nat × Nat)} {L n : Nat} {f : FuncId} (h : saysTrue (evF T M L n f [] []) = true) : FC P f [] (· = .bool true) := by
  unfold saysTrue at h
  split at h
  · rename_i σ' he
    refine .ofGC ((evF_ok hT M L n _ _ _ _ _ he).2.mono ?_)
    rintro r σ ⟨rfl, rfl⟩
    exact ⟨_, _, rfl, rfl⟩
  · cases h

end Go.Proofs.Ytfmeedphpcjkmaa.Ag
