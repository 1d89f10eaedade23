/- The evaluator: a function's code run without memory; what it gives is what the model does. -/
import Derived.Test.YtdlgenppdgkacaaGreatDoorAg16
import Derived.Test.YtdlgenppdgkacaaGreatDoorAgQ
set_option linter.unusedVariables false
set_option linter.unusedSimpArgs false
namespace Go.Proofs.YtdlgenppdgkacaaGreatDoor.Ag
open Go.RowKit (Below)

abbrev CallF := FuncId → List TV → Slots → Option (TV × Slots)
def allIv : List TV → Bool
  | [] => true
  | .iv _ :: l => allIv l
  | _ :: _ => false
def evShut : Option (TV × Slots) → Option IV
  | some (r, σ') => match shut r σ' with
    | some (x, _) => some x
    | none => none
  | none => none
/-- How a call of a function is done: 0 with the places as they are, 1 by reading alone, 2 with the arguments sealed. -/
abbrev Modes := FuncId → Nat
def evCall (call : CallF) (f : FuncId) (σ : Slots) (mode : Nat) : Option (List TV) → Option (TV × Slots)
  | some vs => if mode = 0 ∨ allIv vs = true then call f vs σ else match shutAll vs σ with
      | some (xs, σ1) => if mode = 1 then match evShut (call f (xs.map .iv) []) with
          | some x => if ground x then some (.iv x, σ) else none
          | none => none
        else call f (xs.map .iv) σ1
      | none => call f vs σ
  | none => none
def evCallv (call : CallF) (σ : Slots) : Option TV → Option (List TV) → Option (TV × Slots)
  | some t, some vs => match fnParts t with
    | some (f, fs, cs) => call f (fs ++ vs ++ cs) σ
    | none => none
  | _, _ => none
def evCall0 (call : CallF) (f : FuncId) (σ : Slots) : Option (List TV) → Option (TV × Slots)
  | some vs => call f vs σ
  | none => none
def evT (σ : Slots) (ρ : List (Nat × TV)) : AOpd → Option TV
  | .c v => some (.iv v)
  | .t n => match lk ρ n with
    | some v => some (thaw σ v)
    | none => none
def evAllT (σ : Slots) (ρ : List (Nat × TV)) : List AOpd → Option (List TV)
  | [] => some []
  | x :: l => match evT σ ρ x with
    | some v => match evAllT σ ρ l with
      | some vs => some (v :: vs)
      | none => none
    | none => none
theorem evAllT_is (σ : Slots) (ρ : List (Nat × TV)) : ∀ l, evAllT σ ρ l = evAll (thawR σ ρ) l
  | [] => rfl
  | x :: l => by
    have e : evT σ ρ x = ev (thawR σ ρ) x := by
      cases x with
      | c v => rfl
      | t n => simp only [evT, ev, lk_thawR]; cases lk ρ n <;> rfl
    simp only [evAllT, evAll, e, evAllT_is σ ρ l]
    cases ev (thawR σ ρ) x with
    | none => rfl
    | some v => cases evAll (thawR σ ρ) l <;> rfl
def evTwo (x : Option (TV × Slots)) (ρ : List (Nat × TV)) (σ : Slots) (o : AOp) : Option (TV × Slots) := match x with
  | some r => some r
  | none => aop (thawR σ ρ) σ o
def evOp (md : Modes) (call : CallF) (ρ : List (Nat × TV)) (σ : Slots) : AOp → Option (TV × Slots)
  | .call f as_ => if md f = 0 then evCall0 call f σ (evAllT σ ρ as_) else evCall call f σ (md f) (evAll ρ as_)
  | .callv x as_ => evCallv call σ (ev ρ x) (evAll ρ as_)
  | o => evTwo (aop ρ σ (setK σ.length o)) ρ σ (setK σ.length o)
/-- .. one that touches no place. -/
def evArgs : Option (List TV) → Option (List IV)
  | some vs => match shutAll vs [] with
    | some (xs, []) => some xs
    | _ => none
  | none => none
def evFree (call : CallF) (ρ : List (Nat × TV)) : AOp → Option TV
  | .call f as_ => match evArgs (evAll ρ as_) with
    | some xs => match evShut (call f (xs.map .iv) []) with
      | some x => some (.iv x)
      | none => none
    | none => none
  | o => match aop ρ [] o with
    | some (r, []) => some r
    | _ => none
def evR (md : Modes) (call : CallF) : List AIns → St → Option St
  | [], s => some s
  | i :: is, s => match i.guard with
    | none => match evOp md call s.ρ s.σ i.op with
      | some (r, σ') => evR md call is ({ s with σ := σ' }.put i.dst r)
      | none => none
    | some (t, want) => match lk s.ρ t with
      | some (.iv (.bool b)) => if b = want then (match evOp md call s.ρ s.σ i.op with
          | some (r, σ') => evR md call is ({ s with σ := σ' }.put i.dst r)
          | none => none)
        else evR md call is (s.put i.dst .dead)
      | some .dead => evR md call is (s.put i.dst .dead)
      | _ => none
def evD1 (md : Modes) (call : CallF) (b : Bool) (i : AIns) (s : St) : Option St :=
  if b then match evOp md call s.ρ s.σ i.op with
    | some (r, σ') => some ({ s with σ := σ' }.put i.dst r)
    | none => none
  else match evFree call s.ρ i.op with
    | some r => some (s.put i.dst r)
    | none => none
def evD (md : Modes) (call : CallF) (bd : List Nat) : Nat → List AIns → St → Option St
  | _, [], s => some s
  | k, i :: is, s => match i.guard with
    | none => match evD1 md call (bd.contains k) i s with
      | some s' => evD md call bd (k + 1) is s'
      | none => none
    | some (t, want) => match lk s.ρ t with
      | some (.iv (.bool b)) => if b = want then (match evD1 md call (bd.contains k) i s with
          | some s' => evD md call bd (k + 1) is s'
          | none => none)
        else evD md call bd (k + 1) is (s.put i.dst .dead)
      | some .dead => evD md call bd (k + 1) is (s.put i.dst .dead)
      | _ => none
/-- .. with reads out of turn: the places that these read, and what the other operations made of the places. -/
structure XOut where
  s : St
  X : List Nat
  tr : List (Slots × Slots)
def evX1 (md : Modes) (call : CallF) (bd : List Nat) (k : Nat) (i : AIns) (s : St) : Option XOut :=
  if bd.contains k then match evOp md call s.ρ s.σ i.op with
    | some (r, σ') => some ⟨{ s with σ := σ' }.put i.dst r, [], if bd.contains (k + 2000000) then [] else [(s.σ, σ')]⟩
    | none => none
  else match evFree call s.ρ i.op with
    | some r => some ⟨s.put i.dst r, [], []⟩
    | none => if bd.contains (k + 1000000) then match rdPlaces s.ρ i.op with
        | some ps => match aop s.ρ s.σ i.op with
          | some (r, _) => some ⟨s.put i.dst r, ps, []⟩
          | none => none
        | none => none
      else none
def evX2 (o : XOut) : Option XOut → Option XOut
  | some o' => some ⟨o'.s, o.X ++ o'.X, o.tr ++ o'.tr⟩
  | none => none
def evX (md : Modes) (call : CallF) (bd : List Nat) : Nat → List AIns → St → Option XOut
  | _, [], s => some ⟨s, [], []⟩
  | k, i :: is, s => match i.guard with
    | none => match evX1 md call bd k i s with
      | some o => evX2 o (evX md call bd (k + 1) is o.s)
      | none => none
    | some (t, want) => match lk s.ρ t with
      | some (.iv (.bool b)) => if b = want then (match evX1 md call bd k i s with
          | some o => evX2 o (evX md call bd (k + 1) is o.s)
          | none => none)
        else evX md call bd (k + 1) is (s.put i.dst .dead)
      | some .dead => evX md call bd (k + 1) is (s.put i.dst .dead)
      | _ => none
def evXend : Option XOut → Option (AEx × St)
  | some o => if o.tr.all (fun x => o.X.all fun p => eqPlace x.1 x.2 p) then some (.normal, o.s) else none
  | none => none
/-- .. with operations that make places, out of turn. -/
structure YOut where
  s : St
  X : List Nat
  ks : List Nat
def isCr : AOp → Bool
  | .mkmap _ _ => true
  | .mks _ _ _ _ _ _ _ => true
  | .blist _ _ _ => true
  | .alloc _ _ => true
  | _ => false
def crEnd (d : Option Nat) (s : St) (k : Nat) (x : Option (Nat × Item)) : Option (TV × Slots) → Option YOut
  | some (r, σ1) => match x with
    | none => match lk σ1 k with
      | some (n, it) => some ⟨{ s with σ := upd s.σ k (n, it) }.put d r, [], [k]⟩
      | none => none
    | some _ => none
  | none => none
def evY1 (call : CallF) (i : AIns) (s : St) : Option YOut :=
  if isCr i.op then crEnd i.dst s s.σ.length (lk s.σ s.σ.length) (aop s.ρ s.σ (setK s.σ.length i.op))
  else match evFree call s.ρ i.op with
    | some r => some ⟨s.put i.dst r, [], []⟩
    | none => match rdPlaces s.ρ i.op with
      | some ps => match aop s.ρ s.σ i.op with
        | some (r, _) => some ⟨s.put i.dst r, ps, []⟩
        | none => none
      | none => none
def evY2 (o : YOut) : Option YOut → Option YOut
  | some o' => some ⟨o'.s, o.X ++ o'.X, o.ks ++ o'.ks⟩
  | none => none
def evY (call : CallF) : List AIns → St → Option YOut
  | [], s => some ⟨s, [], []⟩
  | i :: is, s => match i.guard with
    | none => match evY1 call i s with
      | some o => evY2 o (evY call is o.s)
      | none => none
    | some (t, want) => match lk s.ρ t with
      | some (.iv (.bool b)) => if b = want then (match evY1 call i s with
          | some o => evY2 o (evY call is o.s)
          | none => none)
        else evY call is (s.put i.dst .dead)
      | some .dead => evY call is (s.put i.dst .dead)
      | _ => none
def evYend : Option YOut → Option (AEx × St)
  | some o => if o.ks.all (fun k => !o.X.contains k) then some (.normal, o.s) else none
  | none => none
/-- .. with both: new places out of turn, reads out of turn, others in their turn. -/
structure MOut where
  s : St
  X : List Nat
  tr : List (Slots × Slots)
  ks : List Nat
def ofXOut : Option XOut → Option MOut
  | some o => some ⟨o.s, o.X, o.tr, []⟩
  | none => none
def ofYOut : Option YOut → Option MOut
  | some o => some ⟨o.s, [], [], o.ks⟩
  | none => none
def evM1 (md : Modes) (call : CallF) (bd : List Nat) (k : Nat) (i : AIns) (s : St) : Option MOut :=
  if !bd.contains k && bd.contains (k + 5000000) && isCr i.op then ofYOut (crEnd i.dst s s.σ.length (lk s.σ s.σ.length) (aop s.ρ s.σ (setK s.σ.length i.op)))
  else ofXOut (evX1 md call bd k i s)
def evM2 (o : MOut) : Option MOut → Option MOut
  | some o' => some ⟨o'.s, o.X ++ o'.X, o.tr ++ o'.tr, o.ks ++ o'.ks⟩
  | none => none
def evM (md : Modes) (call : CallF) (bd : List Nat) : Nat → List AIns → St → Option MOut
  | _, [], s => some ⟨s, [], [], []⟩
  | k, i :: is, s => match i.guard with
    | none => match evM1 md call bd k i s with
      | some o => evM2 o (evM md call bd (k + 1) is o.s)
      | none => none
    | some (t, want) => match lk s.ρ t with
      | some (.iv (.bool b)) => if b = want then (match evM1 md call bd k i s with
          | some o => evM2 o (evM md call bd (k + 1) is o.s)
          | none => none)
        else evM md call bd (k + 1) is (s.put i.dst .dead)
      | some .dead => evM md call bd (k + 1) is (s.put i.dst .dead)
      | _ => none
/-- .. with new places that are made late: whoever looks at them keeps its turn. -/
def latePl (ρ : List (Nat × TV)) : AOp → List Nat
  | .blit _ _ _ xs => match evAll ρ xs with
    | some vs => vs.flatMap fun v => placeT (some v)
    | none => []
  | _ => []
def evLlate (d : Option Nat) (s : St) (ok : Bool) (ps : List Nat) : Option (TV × Item) → Option MOut
  | some (r, it) => match d with
    | some d => match lk s.σ s.σ.length with
      | none => if ok || ps.isEmpty then some ⟨{ s with σ := upd s.σ s.σ.length (0, it) }.put (some d) r, ps, [], [s.σ.length]⟩ else none
      | some _ => none
    | none => none
  | none => none
def evL (md : Modes) (call : CallF) (bd : List Nat) : Nat → List AIns → St → Option MOut
  | _, [], s => some ⟨s, [], [], []⟩
  | k, i :: is, s => if bd.contains (k + 7000000) then
      (if bd.contains k then none else match i.guard with
       | some _ => none
       | none => match evLlate i.dst s (bd.contains (k + 1000000)) (latePl s.ρ i.op) (lateOf s.σ.length s.ρ s.σ i.op) with
         | some o => evM2 o (evL md call bd (k + 1) is o.s)
         | none => none)
    else match i.guard with
    | none => match ofXOut (evX1 md call bd k i s) with
      | some o => evM2 o (evL md call bd (k + 1) is o.s)
      | none => none
    | some (t, want) => match lk s.ρ t with
      | some (.iv (.bool b)) => if b = want then (match ofXOut (evX1 md call bd k i s) with
          | some o => evM2 o (evL md call bd (k + 1) is o.s)
          | none => none)
        else evL md call bd (k + 1) is (s.put i.dst .dead)
      | some .dead => evL md call bd (k + 1) is (s.put i.dst .dead)
      | _ => none
/-- What is made late. -/
def lateDs (bd : List Nat) : Nat → List AIns → List Nat
  | _, [] => []
  | k, i :: is => (if bd.contains (k + 7000000) then (match i.dst with | some d => [d] | none => []) else []) ++ lateDs bd (k + 1) is
def lateRb (bd ds : List Nat) : Nat → List AIns → Bool
  | _, [] => true
  | k, i :: is => (bd.contains k || (readsOf i).all fun t => !ds.contains t) && lateRb bd ds (k + 1) is
def evMend : Option MOut → Option (AEx × St)
  | some o => if (o.tr.all (fun x => o.X.all fun p => eqPlace x.1 x.2 p)) && (o.ks.all (fun k => !o.X.contains k)) then some (.normal, o.s) else none
  | none => none
def anyRd (bd : List Nat) : Bool := bd.any fun k => decide (1000000 ≤ k)
def evLoop (g : St → Option (AEx × St)) : Nat → St → Option (AEx × St)
  | 0, _ => none
  | n + 1, s => match g s with
    | some (.normal, s') => evLoop g n s'
    | r => r
def evC (md : Modes) (call : CallF) (L : Nat) : ACode → St → Option (AEx × St)
  | .skip, s => some (.normal, s)
  | .region is, s => match evR md call is s with
    | some s' => some (.normal, s')
    | none => none
  | .draw bd is, s => if bd.contains 8000000 then (if lateRb bd (lateDs bd 0 is) 0 is then evMend (evL md call bd 0 is s) else none) else if bd.contains 6000000 then evMend (evM md call bd 0 is s) else if bd.contains 3000000 then evYend (evY call is s) else if anyRd bd then evXend (evX md call bd 0 is s) else match evD md call bd 0 is s with
    | some s' => some (.normal, s')
    | none => none
  | .seq a b, s => match evC md call L a s with
    | some (.normal, s') => evC md call L b s'
    | r => r
  | .cond c a b, s => match ev s.ρ c with
    | some (.iv (.bool true)) => evC md call L a s
    | some (.iv (.bool false)) => evC md call L b s
    | _ => none
  | .block id a, s => match evC md call L a s with
    | some (.exit i, s') => if i = id then some (.normal, s') else some (.exit i, s')
    | r => r
  | .loop a, s => evLoop (evC md call L a) L s
  | .exit id, s => some (.exit id, s)
  | .scope a, s => evC md call L a s
  | .label, s => some (.normal, s)
  | .ret, s => some (.ret, s)
  | .ext _ _ _, s => none
abbrev Tab := List (Nat × (Nat × AFn))
def modeOf (M : List (Nat × Nat)) (f : FuncId) : Nat := (lk M f).getD 2
def evEnd (af : AFn) : Option (AEx × St) → Option (TV × Slots)
  | some (.normal, s) => match retVals s af.res with
    | some rs => some (oneOrTup rs, s.σ)
    | none => none
  | some (.ret, s) => match retVals s af.res with
    | some rs => some (oneOrTup rs, s.σ)
    | none => none
  | _ => none
/-- What functions without an entry of their own give: values for values, the world as it was. -/
abbrev Base := FuncId → List IV → Option IV
def noBase : Base := fun _ _ => none
def unIv : List TV → Option (List IV)
  | [] => some []
  | .iv x :: l => match unIv l with
    | some xs => some (x :: xs)
    | none => none
  | _ :: _ => none
def evBase (B : Base) (f : FuncId) (vs : List TV) (σ : Slots) : Option (TV × Slots) := match unIv vs with
  | some xs => match B f xs with
    | some x => some (.iv x, σ)
    | none => none
  | none => none
def evF (B : Base) (T : Tab) (M : List (Nat × Nat)) (L : Nat) : Nat → CallF
  | 0 => fun _ _ _ => none
  | n + 1 => fun f vs σ => match evBase B f vs σ with
    | some r => some r
    | none => match lk T f with
      | some (np, af) => if vs.length = np then evEnd af (evC (modeOf M) (evF B T M L n) L af.code { ρ := args0 vs 0, σ := σ }) else none
      | none => none

/-! ### it is right -/
def CallIs (P : Program) (call : CallF) : Prop := ∀ f vs σ r σ', call f vs σ = some (r, σ') → callOk P f = true ∧ GC P f vs σ (fun r' σ'' => r' = r ∧ σ'' = σ')

theorem evShut_fc {P : Program} {call : CallF} (hc : CallIs P call) {f : FuncId} {xs : List IV} {x : IV} (hx : evShut (call f (xs.map .iv) []) = some x) : FC P f xs (· = x) := by
  unfold evShut at hx
  split at hx
  · rename_i r0 σ0 hcall
    split at hx
    · rename_i x' σ1 hsh2
      injection hx with hx; subst hx
      refine .ofGC ((hc _ _ _ _ _ hcall).2.mono ?_)
      rintro r' σ'' ⟨rfl, rfl⟩
      exact ⟨x', _, hsh2, rfl⟩
    · cases hx
  · cases hx
theorem evOp_step {P : Program} {md : Modes} {call : CallF} (hc : CallIs P call) {s : St} {o : AOp} {r : TV} {σ' : Slots} (h : evOp md call s.ρ s.σ o = some (r, σ')) : ∃ R, Step P s o R ∧ ∀ r' σ'', R r' σ'' → r' = r ∧ σ'' = σ' := by
  cases o
  case call f as_ =>
    simp only [evOp] at h
    by_cases hmd : md f = 0
    · rw [if_pos hmd, evAllT_is] at h
      cases hvs : evAll (thawR s.σ s.ρ) as_ with
      | none => rw [hvs] at h; cases h
      | some vs => rw [hvs] at h; exact ⟨_, .callT f as_ vs _ hvs (hc _ _ _ _ _ h).2, fun _ _ h => h⟩
    rw [if_neg hmd] at h
    cases hvs : evAll s.ρ as_ with
    | none => rw [hvs] at h; cases h
    | some vs =>
      rw [hvs] at h
      simp only [evCall] at h
      split at h
      · exact ⟨_, .callG f as_ vs _ hvs (hc _ _ _ _ _ h).2, fun _ _ h => h⟩
      · split at h
        · rename_i xs σ1 hsh
          split at h
          · split at h
            · rename_i x hx
              split at h
              · rename_i hg
                simp at h; obtain ⟨rfl, rfl⟩ := h
                refine ⟨_, .callP f as_ vs xs σ1 _ hvs hsh (evShut_fc hc hx) (by rintro y rfl; exact hg), ?_⟩
                rintro r' σ'' ⟨⟨y, rfl, rfl⟩, rfl⟩; exact ⟨rfl, rfl⟩
              · cases h
            · cases h
          · exact ⟨_, .callGF f as_ vs xs σ1 _ hvs hsh (hc _ _ _ _ _ h).2, fun _ _ h => h⟩
        · exact ⟨_, .callG f as_ vs _ hvs (hc _ _ _ _ _ h).2, fun _ _ h => h⟩
  case callv x as_ =>
    simp only [evOp] at h
    cases hx : ev s.ρ x with
    | none => rw [hx] at h; cases h
    | some t =>
      cases hvs : evAll s.ρ as_ with
      | none => rw [hx, hvs] at h; cases h
      | some vs =>
        rw [hx, hvs] at h
        simp only [evCallv] at h
        split at h
        · rename_i f fs cs hp
          exact ⟨_, .callvG x f _ fs cs as_ vs _ hx hp (hc _ _ _ _ _ h).1 hvs (hc _ _ _ _ _ h).2, fun _ _ h => h⟩
        · cases h
  all_goals
    simp only [evOp, evTwo] at h
    split at h
    · rename_i r' h'
      injection h with h; subst h
      exact ⟨_, .opK s.σ.length _ r σ' h', fun _ _ h => h⟩
    · exact ⟨_, .opT s.σ.length _ r σ' h, fun _ _ h => h⟩
theorem evOp_bstep {P : Program} {md : Modes} {call : CallF} (hc : CallIs P call) {ρ : List (Nat × TV)} {σ : Slots} {o : AOp} {r : TV} {σ' : Slots} (h : evOp md call ρ σ o = some (r, σ')) : BStep P ρ σ o r σ' := by
  cases o
  case call f as_ =>
    simp only [evOp] at h
    by_cases hmd : md f = 0
    · rw [if_pos hmd, evAllT_is] at h
      cases hvs : evAll (thawR σ ρ) as_ with
      | none => rw [hvs] at h; cases h
      | some vs => rw [hvs] at h; exact .callT f as_ vs _ _ hvs (hc _ _ _ _ _ h).2
    rw [if_neg hmd] at h
    cases hvs : evAll ρ as_ with
    | none => rw [hvs] at h; cases h
    | some vs =>
      rw [hvs] at h
      simp only [evCall] at h
      split at h
      · exact .callG f as_ vs _ _ hvs (hc _ _ _ _ _ h).2
      · split at h
        · rename_i xs σ1 hsh
          split at h
          · split at h
            · rename_i x hx
              split at h
              · rename_i hg
                simp at h; obtain ⟨rfl, rfl⟩ := h
                exact .callP f as_ vs xs σ1 x hvs hsh (evShut_fc hc hx) hg
              · cases h
            · cases h
          · exact .callGF f as_ vs xs σ1 _ _ hvs hsh (hc _ _ _ _ _ h).2
        · exact .callG f as_ vs _ _ hvs (hc _ _ _ _ _ h).2
  case callv x as_ =>
    simp only [evOp] at h
    cases hx : ev ρ x with
    | none => rw [hx] at h; cases h
    | some t =>
      cases hvs : evAll ρ as_ with
      | none => rw [hx, hvs] at h; cases h
      | some vs =>
        rw [hx, hvs] at h
        simp only [evCallv] at h
        split at h
        · rename_i f fs cs hp
          exact .callvG x f _ fs cs as_ vs _ _ hx hp (hc _ _ _ _ _ h).1 hvs (hc _ _ _ _ _ h).2
        · cases h
  all_goals
    simp only [evOp, evTwo] at h
    split at h
    · rename_i r' h'
      injection h with h; subst h
      exact .opK σ.length _ r σ' h'
    · exact .opT σ.length _ r σ' h
theorem evFree_step {P : Program} {call : CallF} (hc : CallIs P call) {ρ : List (Nat × TV)} {o : AOp} {r : TV} (h : evFree call ρ o = some r) : FStep P ρ o r := by
  cases o
  case call f as_ =>
    simp only [evFree] at h
    split at h
    · rename_i xs hxs
      split at h
      · rename_i x hx
        injection h with h; subst h
        unfold evArgs at hxs
        split at hxs
        · rename_i vs hvs
          split at hxs
          · rename_i xs' hsh
            injection hxs with hxs; subst hxs
            unfold evShut at hx
            split at hx
            · rename_i r0 σ0 hcall
              split at hx
              · rename_i x' σ1 hsh2
                injection hx with hx; subst hx
                refine .call f as_ vs xs' x' hvs hsh (.ofGC ((hc _ _ _ _ _ hcall).2.mono ?_))
                rintro r' σ'' ⟨rfl, rfl⟩
                exact ⟨x', _, hsh2, rfl⟩
              · cases hx
            · cases hx
          · cases hxs
        · cases hxs
      · cases h
    · cases h
  all_goals
    simp only [evFree] at h
    split at h
    · rename_i r' hop
      injection h with h; subst h
      exact .op _ _ hop
    · cases h

theorem evR_ok {P : Program} {md : Modes} {call : CallF} (hc : CallIs P call) {K : St → Prop} : ∀ {is : List AIns} {s s' : St}, evR md call is s = some s' → K s' → wpr P is K s
  | [], s, s', h, hk => by simp [evR] at h; subst h; exact hk
  | i :: is, s, s', h, hk => by
    simp only [evR] at h
    have one : ∀ {r σ'}, evOp md call s.ρ s.σ i.op = some (r, σ') → evR md call is ({ s with σ := σ' }.put i.dst r) = some s' → ∃ R, Step P s i.op R ∧ ∀ r σ', R r σ' → wpr P is K ({ s with σ := σ' }.put i.dst r) := by
      intro r σ' h1 h2
      obtain ⟨R, g1, g2⟩ := evOp_step hc h1
      refine ⟨R, g1, fun r' σ'' hr => ?_⟩
      obtain ⟨rfl, rfl⟩ := g2 r' σ'' hr
      exact evR_ok hc h2 hk
    split at h
    · rename_i hg
      split at h
      · rename_i r σ' hop
        simp only [wpr, hg]
        exact one hop h
      · cases h
    · rename_i t want hg
      split at h
      · rename_i b hb
        split at h
        · rename_i hbw
          split at h
          · rename_i r σ' hop
            exact wpr_guard hg ⟨b, hb, .inl ⟨fun _ => one hop h, fun hn => absurd hbw hn⟩⟩
          · cases h
        · rename_i hbw
          exact wpr_guard hg ⟨b, hb, .inl ⟨fun hb' => absurd hb' hbw, fun _ => evR_ok hc h hk⟩⟩
      · rename_i hb
        simp only [wpr, hg]
        exact ⟨_, _, hb, rfl, .inl ⟨fun e => (by cases e), fun _ => evR_ok hc h hk⟩⟩
      · cases h

theorem evD1_ok {P : Program} {md : Modes} {call : CallF} (hc : CallIs P call) {b : Bool} {i : AIns} {s s' : St} (h : evD1 md call b i s = some s') :
    (b = false ∧ ∃ r, FStep P s.ρ i.op r ∧ s' = s.put i.dst r) ∨ (b = true ∧ ∃ r σ', BStep P s.ρ s.σ i.op r σ' ∧ s' = ({ s with σ := σ' }.put i.dst r)) := by
  unfold evD1 at h
  split at h
  · rename_i hb
    split at h
    · rename_i r σ' hop
      injection h with h; subst h
      exact .inr ⟨hb, r, σ', evOp_bstep hc hop, rfl⟩
    · cases h
  · rename_i hb
    split at h
    · rename_i r hop
      injection h with h; subst h
      exact .inl ⟨by simpa using hb, r, evFree_step hc hop, rfl⟩
    · cases h
theorem evD_ok {P : Program} {md : Modes} {call : CallF} (hc : CallIs P call) {bd : List Nat} {K : St → Prop} : ∀ {is : List AIns} {k : Nat} {s s' : St}, evD md call bd k is s = some s' → K s' → wprd P bd k is K s
  | [], k, s, s', h, hk => by simp [evD] at h; subst h; exact hk
  | i :: is, k, s, s', h, hk => by
    simp only [evD] at h
    split at h
    · rename_i hg
      split at h
      · rename_i s1 h1
        exact ⟨s1, by simp only [DStep, hg]; exact evD1_ok hc h1, evD_ok hc h hk⟩
      · cases h
    · rename_i t want hg
      split at h
      · rename_i b hb
        split at h
        · rename_i hbw
          split at h
          · rename_i s1 h1
            exact ⟨s1, by simp only [DStep, hg]; exact .inr ⟨b, hb, fun _ => evD1_ok hc h1, fun hn => absurd hbw hn⟩, evD_ok hc h hk⟩
          · cases h
        · rename_i hbw
          exact ⟨_, by simp only [DStep, hg]; exact .inr ⟨b, hb, fun hb' => absurd hb' hbw, fun _ => by first | rfl | trivial⟩, evD_ok hc h hk⟩
      · rename_i hb
        exact ⟨_, by simp only [DStep, hg]; exact .inl ⟨hb, by first | rfl | trivial⟩, evD_ok hc h hk⟩
      · cases h

theorem evX1_ok {P : Program} {md : Modes} {call : CallF} (hc : CallIs P call) {bd X : List Nat} {k : Nat} {i : AIns} {s : St} {o : XOut} (h : evX1 md call bd k i s = some o) (hX : ∀ p ∈ o.X, p ∈ X) (ht : ∀ x ∈ o.tr, ∀ p ∈ X, lk x.2 p = lk x.1 p) : DOneX P bd X k i s o.s := by
  unfold evX1 at h
  split at h
  · rename_i hb
    split at h
    · rename_i r σ' hop
      injection h with h; subst h
      refine .inr ⟨hb, r, σ', evOp_bstep hc hop, fun hne p hp => ?_, rfl⟩
      rw [hne] at ht
      exact ht (s.σ, σ') (by simp) p hp
    · cases h
  · rename_i hb
    have hb : bd.contains k = false := by simpa using hb
    split at h
    · rename_i r hop
      injection h with h; subst h
      exact .inl ⟨hb, r, .inl (evFree_step hc hop), rfl⟩
    · split at h
      · rename_i hrd
        split at h
        · rename_i ps hps
          split at h
          · rename_i r σ0 hop
            injection h with h; subst h
            exact .inl ⟨hb, r, .inr ⟨hrd, fun σ' hs => read_ok hps hop fun p hp => hs p (hX p hp)⟩, rfl⟩
          · cases h
        · cases h
      · cases h
theorem evX_ok {P : Program} {md : Modes} {call : CallF} (hc : CallIs P call) {bd X : List Nat} : ∀ {is : List AIns} {k : Nat} {s : St} {o : XOut}, evX md call bd k is s = some o → (∀ p ∈ o.X, p ∈ X) → (∀ x ∈ o.tr, ∀ p ∈ X, lk x.2 p = lk x.1 p) →
    ∃ S : Nat → St, S 0 = s ∧ (∀ (i : Nat) (x : AIns), is[i]? = some x → DStepX P bd X (k + i) x (S i) (S (i + 1))) ∧ S is.length = o.s
  | [], k, s, o, h, hX, ht => by
    simp [evX] at h; subst h
    exact ⟨fun _ => s, rfl, fun i x hx => by simp at hx, rfl⟩
  | i :: is, k, s, o, h, hX, ht => by
    have join : ∀ {s1 : St} {o2 : XOut}, evX md call bd (k + 1) is s1 = some o2 → DStepX P bd X k i s s1 → (∀ p ∈ o2.X, p ∈ X) → (∀ x ∈ o2.tr, ∀ p ∈ X, lk x.2 p = lk x.1 p) → o2.s = o.s →
        ∃ S : Nat → St, S 0 = s ∧ (∀ (j : Nat) (x : AIns), (i :: is)[j]? = some x → DStepX P bd X (k + j) x (S j) (S (j + 1))) ∧ S (i :: is).length = o.s := by
      intro s1 o2 h2 h1 hX2 ht2 e
      obtain ⟨S, e0, h3, h4⟩ := evX_ok hc h2 hX2 ht2
      refine ⟨fun n => match n with | 0 => s | n + 1 => S n, rfl, ?_, by simpa using h4.trans e⟩
      intro j x hx
      cases j with
      | zero => simp at hx; subst hx; simp only [Nat.add_zero]; rw [e0]; exact h1
      | succ j =>
        simp at hx
        have := h3 j x hx
        rw [show k + (j + 1) = k + 1 + j by omega]
        exact this
    have one : ∀ {o1 : XOut}, evX1 md call bd k i s = some o1 → evX2 o1 (evX md call bd (k + 1) is o1.s) = some o → (DOneX P bd X k i s o1.s → DStepX P bd X k i s o1.s) →
        ∃ S : Nat → St, S 0 = s ∧ (∀ (j : Nat) (x : AIns), (i :: is)[j]? = some x → DStepX P bd X (k + j) x (S j) (S (j + 1))) ∧ S (i :: is).length = o.s := by
      intro o1 h1 h2 hg
      unfold evX2 at h2
      split at h2
      · rename_i o2 ho2
        injection h2 with h2; subst h2
        simp only [List.mem_append] at hX ht
        exact join ho2 (hg (evX1_ok hc h1 (fun p hp => hX p (.inl hp)) (fun x hx => ht x (.inl hx)))) (fun p hp => hX p (.inr hp)) (fun x hx => ht x (.inr hx)) rfl
      · cases h2
    simp only [evX] at h
    split at h
    · rename_i hg
      split at h
      · rename_i o1 h1
        exact one h1 h fun h => by simp only [DStepX, hg]; exact h
      · cases h
    · rename_i t want hg
      split at h
      · rename_i b hb
        split at h
        · rename_i hbw
          split at h
          · rename_i o1 h1
            exact one h1 h fun h => by simp only [DStepX, hg]; exact .inr ⟨b, hb, fun _ => h, fun hn => absurd hbw hn⟩
          · cases h
        · rename_i hbw
          exact join h (by simp only [DStepX, hg]; exact .inr ⟨b, hb, fun hb' => absurd hb' hbw, fun _ => by first | rfl | trivial⟩) hX ht rfl
      · rename_i hb
        exact join h (by simp only [DStepX, hg]; exact .inl ⟨hb, by first | rfl | trivial⟩) hX ht rfl
      · cases h

theorem cr_ok {ρ : List (Nat × TV)} {σ σ1 : Slots} {o : AOp} {r : TV} {k n : Nat} {it : Item} (ho : isCr o = true) (hn : lk σ k = none) (h : aop ρ σ (setK k o) = some (r, σ1)) (hl : lk σ1 k = some (n, it)) :
    ∀ σ', lk σ' k = none → aop ρ σ' (setK k o) = some (r, upd σ' k (n, it)) := by
  intro σ' hs
  have e0 : nxt σ k = 0 := by unfold nxt; rw [hn]
  have e1 : nxt σ' k = 0 := by unfold nxt; rw [hs]
  cases o <;> first
    | exact (Bool.false_ne_true ho).elim
    | clear ho
  case mkmap k0 kd =>
    simp only [setK, aop, e0, e1, Option.some.injEq, Prod.mk.injEq] at h ⊢
    obtain ⟨rfl, rfl⟩ := h
    rw [lk_upd, if_pos rfl] at hl
    injection hl with hl; injection hl with h1 h2; subst h1; subst h2
    exact ⟨rfl, rfl⟩
  case blist k0 e z =>
    simp only [setK, aop, e0, e1, Option.some.injEq, Prod.mk.injEq] at h ⊢
    obtain ⟨rfl, rfl⟩ := h
    rw [lk_upd, if_pos rfl] at hl
    injection hl with hl; injection hl with h1 h2; subst h1; subst h2
    exact ⟨rfl, rfl⟩
  case alloc k0 zs =>
    simp only [setK, aop, e0, e1, Option.some.injEq, Prod.mk.injEq] at h ⊢
    obtain ⟨rfl, rfl⟩ := h
    rw [lk_upd, if_pos rfl] at hl
    injection hl with hl; injection hl with h1 h2; subst h1; subst h2
    exact ⟨rfl, rfl⟩
  case mks k0 e z b y x c =>
    simp only [setK, aop, e0, e1] at h ⊢
    split at h
    · rename_i l m hx hc
      split at h
      · rename_i hb
        rw [if_pos hb]
        simp only [Option.some.injEq, Prod.mk.injEq] at h ⊢
        obtain ⟨rfl, rfl⟩ := h
        rw [lk_upd, if_pos rfl] at hl
        injection hl with hl; injection hl with h1 h2; subst h1; subst h2
        exact ⟨rfl, rfl⟩
      · cases h
    · cases h
theorem evY1_ok {P : Program} {call : CallF} (hc : CallIs P call) {X : List Nat} {Pl : Nat → Nat} {k : Nat} {i : AIns} {s : St} {o : YOut} (h : evY1 call i s = some o) (hX : ∀ p ∈ o.X, p ∈ X) (hk : ∀ p ∈ o.ks, p ∉ X) (hP : Pl k = s.σ.length) : DOneC P X Pl k i s o.s := by
  unfold evY1 at h
  split at h
  · rename_i ho
    unfold crEnd at h
    split at h
    · rename_i r σ1 hop
      split at h
      · rename_i hn
        split at h
        · rename_i n it hl
          injection h with h; subst h
          refine .inr ⟨r, n, it, ?_, ?_, ?_, ?_⟩
          · rw [hP]; exact hk _ (by simp)
          · rw [hP]; exact hn
          · rw [hP]; exact cr_ok ho hn hop hl
          · rw [hP]
        · cases h
      · cases h
    · cases h
  · split at h
    · rename_i r hop
      injection h with h; subst h
      exact .inl ⟨r, .inl (evFree_step hc hop), rfl⟩
    · split at h
      · rename_i ps hps
        split at h
        · rename_i r σ0 hop
          injection h with h; subst h
          exact .inl ⟨r, .inr fun σ' hs => read_ok hps hop fun p hp => hs p (hX p hp), rfl⟩
        · cases h
      · cases h
theorem evY_ok {P : Program} {call : CallF} (hc : CallIs P call) {X : List Nat} : ∀ {is : List AIns} {k : Nat} {s : St} {o : YOut}, evY call is s = some o → (∀ p ∈ o.X, p ∈ X) → (∀ p ∈ o.ks, p ∉ X) →
    ∃ (S : Nat → St) (Pl : Nat → Nat), S 0 = s ∧ (∀ (i : Nat) (x : AIns), is[i]? = some x → DStepC P X Pl (k + i) x (S i) (S (i + 1))) ∧ S is.length = o.s
  | [], k, s, o, h, hX, hk => by
    simp [evY] at h; subst h
    exact ⟨fun _ => s, fun _ => 0, rfl, fun i x hx => by simp at hx, rfl⟩
  | i :: is, k, s, o, h, hX, hk => by
    have join : ∀ {s1 : St} {o2 : YOut}, evY call is s1 = some o2 → (∀ Pl : Nat → Nat, Pl k = s.σ.length → DStepC P X Pl k i s s1) → (∀ p ∈ o2.X, p ∈ X) → (∀ p ∈ o2.ks, p ∉ X) → o2.s = o.s →
        ∃ (S : Nat → St) (Pl : Nat → Nat), S 0 = s ∧ (∀ (j : Nat) (x : AIns), (i :: is)[j]? = some x → DStepC P X Pl (k + j) x (S j) (S (j + 1))) ∧ S (i :: is).length = o.s := by
      intro s1 o2 h2 h1 hX2 hk2 e
      obtain ⟨S, Pl, e0, h3, h4⟩ := evY_ok (k := k + 1) hc h2 hX2 hk2
      refine ⟨fun n => match n with | 0 => s | n + 1 => S n, fun n => if n = k then s.σ.length else Pl n, rfl, ?_, by simpa using h4.trans e⟩
      intro j x hx
      cases j with
      | zero => simp at hx; subst hx; simp only [Nat.add_zero]; rw [e0]; exact h1 _ (by simp)
      | succ j =>
        simp at hx
        have := h3 j x hx
        rw [show k + (j + 1) = k + 1 + j by omega]
        exact this.congr (by rw [if_neg (by omega)])
    have one : ∀ {o1 : YOut}, evY1 call i s = some o1 → evY2 o1 (evY call is o1.s) = some o → (∀ Pl, DOneC P X Pl k i s o1.s → DStepC P X Pl k i s o1.s) →
        ∃ (S : Nat → St) (Pl : Nat → Nat), S 0 = s ∧ (∀ (j : Nat) (x : AIns), (i :: is)[j]? = some x → DStepC P X Pl (k + j) x (S j) (S (j + 1))) ∧ S (i :: is).length = o.s := by
      intro o1 h1 h2 hg
      unfold evY2 at h2
      split at h2
      · rename_i o2 ho2
        injection h2 with h2; subst h2
        simp only [List.mem_append] at hX hk
        exact join ho2 (fun Pl hP => hg Pl (evY1_ok hc h1 (fun p hp => hX p (.inl hp)) (fun p hp => hk p (.inl hp)) hP)) (fun p hp => hX p (.inr hp)) (fun p hp => hk p (.inr hp)) rfl
      · cases h2
    simp only [evY] at h
    split at h
    · rename_i hg
      split at h
      · rename_i o1 h1
        exact one h1 h fun Pl h => by simp only [DStepC, hg]; exact h
      · cases h
    · rename_i t want hg
      split at h
      · rename_i b hb
        split at h
        · rename_i hbw
          split at h
          · rename_i o1 h1
            exact one h1 h fun Pl h => by simp only [DStepC, hg]; exact .inr ⟨b, hb, fun _ => h, fun hn => absurd hbw hn⟩
          · cases h
        · rename_i hbw
          exact join h (fun Pl _ => by simp only [DStepC, hg]; exact .inr ⟨b, hb, fun hb' => absurd hb' hbw, fun _ => by first | rfl | trivial⟩) hX hk rfl
      · rename_i hb
        exact join h (fun Pl _ => by simp only [DStepC, hg]; exact .inl ⟨hb, by first | rfl | trivial⟩) hX hk rfl
      · cases h

theorem DOneX.toM {P : Program} {bd X : List Nat} {Pl : Nat → Nat} {k : Nat} {i : AIns} {s s' : St} (h : DOneX P bd X k i s s') : DOneM P bd X Pl k i s s' := by
  rcases h with h | h
  · exact .inl h
  · exact .inr (.inr h)
theorem evM1_ok {P : Program} {md : Modes} {call : CallF} (hc : CallIs P call) {bd X : List Nat} {Pl : Nat → Nat} {k : Nat} {i : AIns} {s : St} {o : MOut} (h : evM1 md call bd k i s = some o) (hX : ∀ p ∈ o.X, p ∈ X) (ht : ∀ x ∈ o.tr, ∀ p ∈ X, lk x.2 p = lk x.1 p) (hk : ∀ p ∈ o.ks, p ∉ X) (hP : Pl k = s.σ.length) : DOneM P bd X Pl k i s o.s := by
  unfold evM1 at h
  split at h
  · rename_i hcond
    simp only [Bool.and_eq_true, Bool.not_eq_true'] at hcond
    obtain ⟨⟨hb, hb5⟩, ho⟩ := hcond
    unfold crEnd at h
    split at h
    · rename_i r σ1 hop
      split at h
      · rename_i hn
        split at h
        · rename_i n it hl
          simp only [ofYOut, Option.some.injEq] at h; subst h
          refine .inr (.inl ⟨⟨hb, hb5⟩, r, n, it, ?_, ?_, ?_, ?_⟩)
          · rw [hP]; exact hk _ (by simp)
          · rw [hP]; exact hn
          · rw [hP]; exact cr_ok ho hn hop hl
          · rw [hP]
        · simp [ofYOut] at h
      · simp [ofYOut] at h
    · simp [ofYOut] at h
  · cases hx : evX1 md call bd k i s with
    | none => rw [hx] at h; simp [ofXOut] at h
    | some ox =>
      rw [hx] at h
      simp only [ofXOut, Option.some.injEq] at h; subst h
      exact (evX1_ok hc hx hX ht).toM
theorem evM_ok {P : Program} {md : Modes} {call : CallF} (hc : CallIs P call) {bd X : List Nat} : ∀ {is : List AIns} {k : Nat} {s : St} {o : MOut}, evM md call bd k is s = some o → (∀ p ∈ o.X, p ∈ X) → (∀ x ∈ o.tr, ∀ p ∈ X, lk x.2 p = lk x.1 p) → (∀ p ∈ o.ks, p ∉ X) →
    ∃ (S : Nat → St) (Pl : Nat → Nat), S 0 = s ∧ (∀ (i : Nat) (x : AIns), is[i]? = some x → DStepM P bd X Pl (k + i) x (S i) (S (i + 1))) ∧ S is.length = o.s
  | [], k, s, o, h, hX, ht, hk => by
    simp [evM] at h; subst h
    exact ⟨fun _ => s, fun _ => 0, rfl, fun i x hx => by simp at hx, rfl⟩
  | i :: is, k, s, o, h, hX, ht, hk => by
    have join : ∀ {s1 : St} {o2 : MOut}, evM md call bd (k + 1) is s1 = some o2 → (∀ Pl : Nat → Nat, Pl k = s.σ.length → DStepM P bd X Pl k i s s1) → (∀ p ∈ o2.X, p ∈ X) → (∀ x ∈ o2.tr, ∀ p ∈ X, lk x.2 p = lk x.1 p) → (∀ p ∈ o2.ks, p ∉ X) → o2.s = o.s →
        ∃ (S : Nat → St) (Pl : Nat → Nat), S 0 = s ∧ (∀ (j : Nat) (x : AIns), (i :: is)[j]? = some x → DStepM P bd X Pl (k + j) x (S j) (S (j + 1))) ∧ S (i :: is).length = o.s := by
      intro s1 o2 h2 h1 hX2 ht2 hk2 e
      obtain ⟨S, Pl, e0, h3, h4⟩ := evM_ok (k := k + 1) hc h2 hX2 ht2 hk2
      refine ⟨fun n => match n with | 0 => s | n + 1 => S n, fun n => if n = k then s.σ.length else Pl n, rfl, ?_, by simpa using h4.trans e⟩
      intro j x hx
      cases j with
      | zero => simp at hx; subst hx; simp only [Nat.add_zero]; rw [e0]; exact h1 _ (by simp)
      | succ j =>
        simp at hx
        have := h3 j x hx
        rw [show k + (j + 1) = k + 1 + j by omega]
        exact this.congr (by rw [if_neg (by omega)])
    have one : ∀ {o1 : MOut}, evM1 md call bd k i s = some o1 → evM2 o1 (evM md call bd (k + 1) is o1.s) = some o → (∀ Pl, DOneM P bd X Pl k i s o1.s → DStepM P bd X Pl k i s o1.s) →
        ∃ (S : Nat → St) (Pl : Nat → Nat), S 0 = s ∧ (∀ (j : Nat) (x : AIns), (i :: is)[j]? = some x → DStepM P bd X Pl (k + j) x (S j) (S (j + 1))) ∧ S (i :: is).length = o.s := by
      intro o1 h1 h2 hg
      unfold evM2 at h2
      split at h2
      · rename_i o2 ho2
        injection h2 with h2; subst h2
        simp only [List.mem_append] at hX ht hk
        exact join ho2 (fun Pl hP => hg Pl (evM1_ok hc h1 (fun p hp => hX p (.inl hp)) (fun x hx => ht x (.inl hx)) (fun p hp => hk p (.inl hp)) hP)) (fun p hp => hX p (.inr hp)) (fun x hx => ht x (.inr hx)) (fun p hp => hk p (.inr hp)) rfl
      · cases h2
    simp only [evM] at h
    split at h
    · rename_i hg
      split at h
      · rename_i o1 h1
        exact one h1 h fun Pl h => by simp only [DStepM, hg]; exact h
      · cases h
    · rename_i t want hg
      split at h
      · rename_i b hb
        split at h
        · rename_i hbw
          split at h
          · rename_i o1 h1
            exact one h1 h fun Pl h => by simp only [DStepM, hg]; exact .inr ⟨b, hb, fun _ => h, fun hn => absurd hbw hn⟩
          · cases h
        · rename_i hbw
          exact join h (fun Pl _ => by simp only [DStepM, hg]; exact .inr ⟨b, hb, fun hb' => absurd hb' hbw, fun _ => by first | rfl | trivial⟩) hX ht hk rfl
      · rename_i hb
        exact join h (fun Pl _ => by simp only [DStepM, hg]; exact .inl ⟨hb, by first | rfl | trivial⟩) hX ht hk rfl
      · cases h

theorem lateOf_read {k : Nat} {ρ : List (Nat × TV)} {σ σ' : Slots} {o : AOp} (h : ∀ p ∈ latePl ρ o, lk σ' p = lk σ p) : lateOf k ρ σ' o = lateOf k ρ σ o := by
  cases o <;> try rfl
  rename_i k0 e sz xs
  simp only [lateOf, latePl] at h ⊢
  cases hv : evAll ρ xs with
  | none => rfl
  | some vs =>
    rw [hv] at h
    have : ∀ (vs : List TV), (∀ p ∈ vs.flatMap fun v => placeT (some v), lk σ' p = lk σ p) → litCells σ' sz vs = litCells σ sz vs := by
      intro vs
      induction vs with
      | nil => intro _; rfl
      | cons v vs ih =>
        intro h
        simp only [List.flatMap_cons, List.mem_append] at h
        simp only [litCells]
        rw [cellsOf_congr fun p hp => h p (.inl hp), ih fun p hp => h p (.inr hp)]
    simp only [this vs h]
theorem lateR_of {bd ds : List Nat} {is : List AIns} : ∀ {k : Nat} {js : List AIns}, lateRb bd ds k js = true → ∀ (j : Nat) (x : AIns), js[j]? = some x → bd.contains (k + j) = false → ∀ t ∈ readsOf x, t ∉ ds
  | k, [], _, j, x, hx => by simp at hx
  | k, i :: js, h, j, x, hx => by
    simp only [lateRb, Bool.and_eq_true, Bool.or_eq_true, List.all_eq_true] at h
    cases j with
    | zero =>
      simp at hx; subst hx
      intro hb t ht hm
      rcases h.1 with h1 | h1
      · rw [Nat.add_zero] at hb; rw [hb] at h1; cases h1
      · have := h1 t ht
        rw [List.contains_iff_mem.2 hm] at this; cases this
    | succ j =>
      simp at hx
      intro hb
      exact lateR_of (is := is) h.2 j x hx (by rw [show k + 1 + j = k + (j + 1) by omega]; exact hb)
theorem mem_lateDs {bd : List Nat} {d : Nat} : ∀ (is : List AIns) (k j n : Nat) (y : AIns), is[j]? = some y → n = k + j → bd.contains (n + 7000000) = true → y.dst = some d → d ∈ lateDs bd k is := by
  intro is
  induction is with
  | nil => intro k j n y hy; simp at hy
  | cons i is ih =>
    intro k j n y hy hn hb hd
    simp only [lateDs, List.mem_append]
    cases j with
    | zero =>
      obtain rfl : n = k := by omega
      simp at hy; subst hy
      left; rw [if_pos hb, hd]; simp
    | succ j =>
      right
      exact ih (k + 1) j n y (by simpa using hy) (by omega) hb hd
theorem lateRb_ok {bd : List Nat} {is : List AIns} (h : lateRb bd (lateDs bd 0 is) 0 is = true) : lateR bd is := by
  intro j k y x d hy hx hl hd hb hm
  exact lateR_of (is := is) h k x hx (by simpa using hb) d hm (mem_lateDs is 0 j j y hy (by omega) hl hd)
theorem DStepL.congr {P : Program} {bd X : List Nat} {Pl Pl' : Nat → Nat} {k : Nat} {i : AIns} {s s' : St} (e : Pl' k = Pl k) (h : DStepL P bd X Pl k i s s') : DStepL P bd X Pl' k i s s' := by
  unfold DStepL DLate at h ⊢
  rw [e]; exact h
theorem DOneX.toL {P : Program} {bd X : List Nat} {Pl : Nat → Nat} {k : Nat} {i : AIns} {s s' : St} (hn : bd.contains (k + 7000000) = false) (h : DOneX P bd X k i s s') : DOneL P bd X Pl k i s s' := by
  rcases h with ⟨h0, h⟩ | h
  · exact .inl ⟨⟨h0, hn⟩, h⟩
  · exact .inr h
theorem evL_ok {P : Program} {md : Modes} {call : CallF} (hc : CallIs P call) {bd X : List Nat} : ∀ {is : List AIns} {k : Nat} {s : St} {o : MOut}, evL md call bd k is s = some o → (∀ p ∈ o.X, p ∈ X) → (∀ x ∈ o.tr, ∀ p ∈ X, lk x.2 p = lk x.1 p) → (∀ p ∈ o.ks, p ∉ X) →
    ∃ (S : Nat → St) (Pl : Nat → Nat), S 0 = s ∧ (∀ (i : Nat) (x : AIns), is[i]? = some x → DStepL P bd X Pl (k + i) x (S i) (S (i + 1))) ∧ S is.length = o.s
  | [], k, s, o, h, hX, ht, hk => by
    simp [evL] at h; subst h
    exact ⟨fun _ => s, fun _ => 0, rfl, fun i x hx => by simp at hx, rfl⟩
  | i :: is, k, s, o, h, hX, ht, hk => by
    have join : ∀ {s1 : St} {o2 : MOut}, evL md call bd (k + 1) is s1 = some o2 → (∀ Pl : Nat → Nat, Pl k = s.σ.length → DStepL P bd X Pl k i s s1) → (∀ p ∈ o2.X, p ∈ X) → (∀ x ∈ o2.tr, ∀ p ∈ X, lk x.2 p = lk x.1 p) → (∀ p ∈ o2.ks, p ∉ X) → o2.s = o.s →
        ∃ (S : Nat → St) (Pl : Nat → Nat), S 0 = s ∧ (∀ (j : Nat) (x : AIns), (i :: is)[j]? = some x → DStepL P bd X Pl (k + j) x (S j) (S (j + 1))) ∧ S (i :: is).length = o.s := by
      intro s1 o2 h2 h1 hX2 ht2 hk2 e
      obtain ⟨S, Pl, e0, h3, h4⟩ := evL_ok (k := k + 1) hc h2 hX2 ht2 hk2
      refine ⟨fun n => match n with | 0 => s | n + 1 => S n, fun n => if n = k then s.σ.length else Pl n, rfl, ?_, by simpa using h4.trans e⟩
      intro j x hx
      cases j with
      | zero => simp at hx; subst hx; simp only [Nat.add_zero]; rw [e0]; exact h1 _ (by simp)
      | succ j =>
        simp at hx
        have := h3 j x hx
        rw [show k + (j + 1) = k + 1 + j by omega]
        exact this.congr (by rw [if_neg (by omega)])
    have two : ∀ {o1 : MOut}, evM2 o1 (evL md call bd (k + 1) is o1.s) = some o → ((∀ p ∈ o1.X, p ∈ X) → (∀ x ∈ o1.tr, ∀ p ∈ X, lk x.2 p = lk x.1 p) → (∀ p ∈ o1.ks, p ∉ X) → ∀ Pl : Nat → Nat, Pl k = s.σ.length → DStepL P bd X Pl k i s o1.s) →
        ∃ (S : Nat → St) (Pl : Nat → Nat), S 0 = s ∧ (∀ (j : Nat) (x : AIns), (i :: is)[j]? = some x → DStepL P bd X Pl (k + j) x (S j) (S (j + 1))) ∧ S (i :: is).length = o.s := by
      intro o1 h2 hg
      unfold evM2 at h2
      split at h2
      · rename_i o2 ho2
        injection h2 with h2; subst h2
        simp only [List.mem_append] at hX ht hk
        exact join ho2 (hg (fun p hp => hX p (.inl hp)) (fun x hx => ht x (.inl hx)) (fun p hp => hk p (.inl hp))) (fun p hp => hX p (.inr hp)) (fun x hx => ht x (.inr hx)) (fun p hp => hk p (.inr hp)) rfl
      · cases h2
    have one : ∀ {o1 : MOut}, bd.contains (k + 7000000) = false → ofXOut (evX1 md call bd k i s) = some o1 → evM2 o1 (evL md call bd (k + 1) is o1.s) = some o → (∀ Pl, DOneL P bd X Pl k i s o1.s → DStepL P bd X Pl k i s o1.s) →
        ∃ (S : Nat → St) (Pl : Nat → Nat), S 0 = s ∧ (∀ (j : Nat) (x : AIns), (i :: is)[j]? = some x → DStepL P bd X Pl (k + j) x (S j) (S (j + 1))) ∧ S (i :: is).length = o.s := by
      intro o1 hn h1 h2 hg
      refine two h2 fun a1 a2 a3 Pl hP => hg Pl ?_
      cases hx : evX1 md call bd k i s with
      | none => rw [hx] at h1; simp [ofXOut] at h1
      | some ox =>
        rw [hx] at h1
        simp only [ofXOut, Option.some.injEq] at h1; subst h1
        exact (evX1_ok hc hx a1 a2).toL hn
    simp only [evL] at h
    split at h
    · rename_i hl
      split at h
      · cases h
      rename_i hb
      have hb : bd.contains k = false := by simpa using hb
      split at h
      · cases h
      rename_i hg
      split at h
      · rename_i o1 h1
        refine two h fun a1 a2 a3 Pl hP => .inl ⟨hb, hl, hg, ?_⟩
        unfold evLlate at h1
        split at h1
        · rename_i r it hlo
          split at h1
          · rename_i d hd
            split at h1
            · rename_i hn
              split at h1
              · rename_i hok
                injection h1 with h1; subst h1
                refine ⟨d, r, it, hd, ?_, by rw [hP]; exact hn, fun σ' hσ => ?_, by rw [hP]⟩
                · rw [hP]; exact a3 _ (by simp)
                · rw [hP, ← hlo]
                  refine lateOf_read fun p hp => ?_
                  simp only [Bool.or_eq_true] at hok
                  rcases hok with hok | hok
                  · exact hσ hok p (a1 p hp)
                  · rw [List.isEmpty_iff] at hok; rw [hok] at hp; cases hp
              · cases h1
            · cases h1
          · cases h1
        · cases h1
      · cases h
    rename_i hl
    have hl : bd.contains (k + 7000000) = false := by simpa using hl
    split at h
    · rename_i hg
      split at h
      · rename_i o1 h1
        exact one hl h1 h fun Pl h => .inr ⟨hl, by rw [hg]; exact h⟩
      · cases h
    · rename_i t want hg
      split at h
      · rename_i b hb
        split at h
        · rename_i hbw
          split at h
          · rename_i o1 h1
            exact one hl h1 h fun Pl h => .inr ⟨hl, by rw [hg]; exact .inr ⟨b, hb, fun _ => h, fun hn => absurd hbw hn⟩⟩
          · cases h
        · rename_i hbw
          exact join h (fun Pl _ => .inr ⟨hl, by rw [hg]; exact .inr ⟨b, hb, fun hb' => absurd hb' hbw, fun _ => by first | rfl | trivial⟩⟩) hX ht hk rfl
      · rename_i hb
        exact join h (fun Pl _ => .inr ⟨hl, by rw [hg]; exact .inl ⟨hb, by first | rfl | trivial⟩⟩) hX ht hk rfl
      · cases h

theorem evC_ok {P : Program} {md : Modes} {call : CallF} {L : Nat} (hc : CallIs P call) : ∀ (c : ACode) {Q : AEx → St → Prop} {s s' : St} {e : AEx}, evC md call L c s = some (e, s') → Q e s' → wpc P c Q s
  | .skip, Q, s, s', e, h, hq => by simp [evC] at h; obtain ⟨rfl, rfl⟩ := h; exact hq
  | .region is, Q, s, s', e, h, hq => by
    simp only [evC] at h
    split at h
    · rename_i s1 h1
      simp at h; obtain ⟨rfl, rfl⟩ := h
      exact ⟨s.ρ, fun _ _ h => h, evR_ok hc h1 hq⟩
    · cases h
  | .draw bd is, Q, s, s', e, h, hq => by
    simp only [evC] at h
    split at h
    · split at h
      · rename_i hlr
        unfold evMend at h
        split at h
        · rename_i o ho
          split at h
          · rename_i hall
            simp only [Bool.and_eq_true] at hall
            simp at h; obtain ⟨rfl, rfl⟩ := h
            obtain ⟨S, Pl, e0, h1, h2⟩ := evL_ok (X := o.X) (k := 0) hc ho (fun _ h => h) (fun x hx p hp => eqPlace_ok (List.all_eq_true.1 (List.all_eq_true.1 hall.1 x hx) p hp)) (fun p hp hm => by
              have := List.all_eq_true.1 hall.2 p hp
              simp [hm] at this)
            exact .inr (.inr (.inr (.inr ⟨o.X, Pl, S, e0, lateRb_ok hlr, fun i x hx => by simpa using h1 i x hx, h2 ▸ hq⟩)))
          · cases h
        · cases h
      · cases h
    split at h
    · unfold evMend at h
      split at h
      · rename_i o ho
        split at h
        · rename_i hall
          simp only [Bool.and_eq_true] at hall
          simp at h; obtain ⟨rfl, rfl⟩ := h
          obtain ⟨S, Pl, e0, h1, h2⟩ := evM_ok (X := o.X) (k := 0) hc ho (fun _ h => h) (fun x hx p hp => eqPlace_ok (List.all_eq_true.1 (List.all_eq_true.1 hall.1 x hx) p hp)) (fun p hp hm => by
            have := List.all_eq_true.1 hall.2 p hp
            simp [hm] at this)
          exact .inr (.inr (.inr (.inl ⟨o.X, Pl, S, e0, fun i x hx => by simpa using h1 i x hx, h2 ▸ hq⟩)))
        · cases h
      · cases h
    split at h
    · unfold evYend at h
      split at h
      · rename_i o ho
        split at h
        · rename_i hall
          simp at h; obtain ⟨rfl, rfl⟩ := h
          obtain ⟨S, Pl, e0, h1, h2⟩ := evY_ok (X := o.X) (k := 0) hc ho (fun _ h => h) (fun p hp hm => by
            have := List.all_eq_true.1 hall p hp
            simp [hm] at this)
          exact .inr (.inr (.inl ⟨o.X, Pl, S, e0, fun i x hx => by simpa using h1 i x hx, h2 ▸ hq⟩))
        · cases h
      · cases h
    split at h
    · unfold evXend at h
      split at h
      · rename_i o ho
        split at h
        · rename_i hall
          simp at h; obtain ⟨rfl, rfl⟩ := h
          obtain ⟨S, e0, h1, h2⟩ := evX_ok (X := o.X) hc ho (fun _ h => h) (fun x hx p hp => eqPlace_ok (List.all_eq_true.1 (List.all_eq_true.1 hall x hx) p hp))
          exact .inr (.inl ⟨o.X, S, e0, fun i x hx => by simpa using h1 i x hx, h2 ▸ hq⟩)
        · cases h
      · cases h
    split at h
    · rename_i s1 h1
      simp at h; obtain ⟨rfl, rfl⟩ := h
      exact .inl (evD_ok hc h1 hq)
    · cases h
  | .seq a b, Q, s, s', e, h, hq => by
    simp only [evC] at h
    show wpc P a (thenC (wpc P b Q) Q) s
    split at h
    · rename_i s1 h1
      exact evC_ok hc a h1 (evC_ok hc b h hq)
    · rename_i hne
      refine evC_ok hc a h ?_
      cases e with
      | normal => exact (hne _ h).elim
      | exit id => exact hq
      | ret => exact hq
  | .cond c a b, Q, s, s', e, h, hq => by
    simp only [evC] at h
    split at h
    · rename_i hb
      exact ⟨true, hb, fun _ => evC_ok hc a h hq, fun h0 => absurd h0 (by simp)⟩
    · rename_i hb
      exact ⟨false, hb, fun h0 => absurd h0 (by simp), fun _ => evC_ok hc b h hq⟩
    · cases h
  | .block id a, Q, s, s', e, h, hq => by
    simp only [evC] at h
    show wpc P a (blockC id Q) s
    split at h
    · rename_i i s1 h1
      refine evC_ok hc a h1 ?_
      simp only [blockC]
      split at h
      · rename_i e1
        simp at h; obtain ⟨rfl, rfl⟩ := h
        rw [if_pos e1]; exact hq
      · rename_i e1
        simp at h; obtain ⟨rfl, rfl⟩ := h
        rw [if_neg e1]; exact hq
    · rename_i hne
      refine evC_ok hc a h ?_
      cases e with
      | normal => exact hq
      | exit i => exact (hne _ _ h).elim
      | ret => exact hq
  | .loop a, Q, s, s', e, h, hq => by
    simp only [evC] at h
    refine ⟨fun n s => ∃ e s', evLoop (evC md call L a) n s = some (e, s') ∧ Q e s', L, ⟨s, .refl s, e, s', h, hq⟩, ?_⟩
    rintro n s1 ⟨e1, s2, h1, h2⟩
    cases n with
    | zero => simp [evLoop] at h1
    | succ n =>
      simp only [evLoop] at h1
      split at h1
      · rename_i s3 h3
        exact evC_ok hc a h3 ⟨n, by omega, e1, s2, h1, h2⟩
      · rename_i hne
        refine evC_ok hc a h1 ?_
        cases e1 with
        | normal => exact (hne _ h1).elim
        | exit i => exact h2
        | ret => exact h2
  | .exit id, Q, s, s', e, h, hq => by simp [evC] at h; obtain ⟨rfl, rfl⟩ := h; exact hq
  | .scope a, Q, s, s', e, h, hq => by simp only [evC] at h; exact evC_ok hc a h hq
  | .label, Q, s, s', e, h, hq => by simp [evC] at h; obtain ⟨rfl, rfl⟩ := h; exact hq
  | .ret, Q, s, s', e, h, hq => by simp [evC] at h; obtain ⟨rfl, rfl⟩ := h; exact hq
  | .ext _ _ _, Q, s, s', e, h, hq => by simp [evC] at h

/-- What a table of functions is. -/
inductive TabOk (P : Program) : Tab → Prop
  | nil : TabOk P []
  | cons {f np : Nat} {af : AFn} {T : Tab} (fn : Func) (ch : List (Nat × List Nat)) (hf : P.funcs[f]? = some fn) (ht : trFn P ch fn = some af) (hn : np ≤ fn.ntmps) (hc : callOk P f = true) (h : TabOk P T) : TabOk P ((f, (np, af)) :: T)
theorem TabOk.get {P : Program} {T : Tab} (h : TabOk P T) {f np : Nat} {af : AFn} (hl : lk T f = some (np, af)) : ∃ fn ch, P.funcs[f]? = some fn ∧ trFn P ch fn = some af ∧ np ≤ fn.ntmps ∧ callOk P f = true := by
  induction h with
  | nil => simp [lk] at hl
  | cons fn ch hf ht hn hc h ih =>
    simp only [lk] at hl
    split at hl
    · rename_i e; subst e; injection hl with hl; injection hl with h1 h2; subst h1; subst h2
      exact ⟨fn, ch, hf, ht, hn, hc⟩
    · exact ih hl

theorem unIv_map : ∀ {vs : List TV} {xs : List IV}, unIv vs = some xs → vs = xs.map .iv
  | [], xs, h => by simp [unIv] at h; subst h; rfl
  | .iv x :: l, xs, h => by
    simp only [unIv] at h
    split at h
    · rename_i ys hy
      injection h with h; subst h
      simp [unIv_map hy]
    · cases h
/-- A contract over values, within its caller's places. -/
theorem GC.ofFC {P : Program} {f : FuncId} {xs : List IV} {σ : Slots} {Q : IV → Prop} (h : FC P f xs Q) : GC P f (xs.map .iv) σ fun r σ' => (∃ x, r = .iv x ∧ Q x) ∧ σ' = σ := by
  intro K w vs hs hsz hr
  refine (h K.I w vs hs.old (by simpa using hsz) (fun q c v hc hv => ?_)).mono ?_
  · have := hr q (.iv c) v (by simp [hc]) hv
    cases this; assumption
  · rintro e w' ⟨v, rfl, I', r, hq, hrel, hb, i1, i2, i3⟩
    obtain ⟨f1, f2⟩ := hs.afterCall hb i1 i2 i3
    exact ⟨v, rfl, _, .iv r, σ, ⟨⟨r, rfl, hq⟩, rfl⟩, .iv _ _ hrel, f1, f2⟩
theorem evBase_ok {P : Program} {B : Base} (hB : ∀ f xs x, B f xs = some x → callOk P f = true ∧ FC P f xs (· = x)) : CallIs P (evBase B) := by
  intro f vs σ r σ' h
  unfold evBase at h
  split at h
  · rename_i xs hxs
    have := unIv_map hxs; subst this
    split at h
    · rename_i x hx
      simp at h; obtain ⟨rfl, rfl⟩ := h
      obtain ⟨h1, h2⟩ := hB _ _ _ hx
      refine ⟨h1, (GC.ofFC h2).mono ?_⟩
      rintro r σ'' ⟨⟨y, rfl, rfl⟩, rfl⟩
      exact ⟨rfl, rfl⟩
    · cases h
  · cases h
def BaseOk (P : Program) (B : Base) : Prop := ∀ f xs x, B f xs = some x → callOk P f = true ∧ FC P f xs (· = x)
theorem noBase_ok {P : Program} : BaseOk P noBase := fun _ _ _ h => by cases h
theorem evF_ok {P : Program} {B : Base} (hB : BaseOk P B) {T : Tab} (hT : TabOk P T) (M : List (Nat × Nat)) (L : Nat) : ∀ n, CallIs P (evF B T M L n)
  | 0, f, vs, σ, r, σ', h => by simp [evF] at h
  | n + 1, f, vs, σ, r, σ', h => by
    simp only [evF] at h
    split at h
    · rename_i r0 hb
      injection h with h; subst h
      exact evBase_ok hB _ _ _ _ _ hb
    split at h
    · rename_i np af hl
      obtain ⟨fn, ch, h1, h2, h3, h4⟩ := hT.get hl
      split at h
      · rename_i hlen
        refine ⟨h4, GC.of h1 h2 (by omega) ?_⟩
        unfold evEnd at h
        split at h
        · rename_i s hs
          split at h
          · rename_i rs hrs
            simp at h; obtain ⟨rfl, rfl⟩ := h
            exact evC_ok (evF_ok hB hT M L n) af.code hs ⟨trivial, rs, hrs, rfl, rfl⟩
          · cases h
        · rename_i s hs
          split at h
          · rename_i rs hrs
            simp at h; obtain ⟨rfl, rfl⟩ := h
            exact evC_ok (evF_ok hB hT M L n) af.code hs ⟨trivial, rs, hrs, rfl, rfl⟩
          · cases h
        · cases h
      · cases h
    · cases h

theorem TabOk.filter {P : Program} {T : Tab} (h : TabOk P T) (p : Nat × (Nat × AFn) → Bool) : TabOk P (T.filter p) := by
  induction h with
  | nil => exact .nil
  | cons fn ch hf ht hn hc h ih =>
    rw [List.filter_cons]
    split
    · exact .cons fn ch hf ht hn hc ih
    · exact ih
/-- Calls that are known already. -/
def findM : List (FuncId × List IV × IV) → FuncId → List IV → Option IV
  | [], _, _ => none
  | (g, as, x) :: l, f, ys => if g = f then (if eqIVs as ys then some x else findM l f ys) else findM l f ys
def memoB (M : List (FuncId × List IV × IV)) (B : Base) : Base := fun f ys => match findM M f ys with
  | some x => some x
  | none => B f ys
theorem memoB_ok {P : Program} {B : Base} (hB : BaseOk P B) : ∀ {M : List (FuncId × List IV × IV)}, (∀ e ∈ M, callOk P e.1 = true ∧ FC P e.1 e.2.1 (· = e.2.2)) → BaseOk P (memoB M B) := by
  intro M hM f ys x h
  unfold memoB at h
  split at h
  · rename_i x' hx
    injection h with h; subst h
    have key : ∀ (M : List (FuncId × List IV × IV)), (∀ e ∈ M, callOk P e.1 = true ∧ FC P e.1 e.2.1 (· = e.2.2)) → findM M f ys = some x' → callOk P f = true ∧ FC P f ys (· = x') := by
      intro M
      induction M with
      | nil => intro _ h; cases h
      | cons e M ih =>
        obtain ⟨g, as, y⟩ := e
        intro hM h
        simp only [findM] at h
        split at h
        · rename_i hg; subst hg
          split at h
          · rename_i he
            injection h with h; subst h
            have e := eqIVs_ok he
            subst e
            exact hM (g, as, y) (by simp)
          · exact ih (fun e he => hM e (by simp [he])) h
        · exact ih (fun e he => hM e (by simp [he])) h
    exact key M hM hx
  · exact hB f ys x h
/-- What a closed call gives. -/
def givesIv (x : Option (TV × Slots)) (y : IV) : Bool := match evShut x with
  | some z => eqIV z y
  | none => false
theorem FC.ofGives {P : Program} {B : Base} (hB : BaseOk P B) {T : Tab} (hT : TabOk P T) {M : List (Nat × Nat)} {L n : Nat} {f : FuncId} {xs : List IV} {y : IV} (h : givesIv (evF B T M L n f (xs.map .iv) []) y = true) : FC P f xs (· = y) := by
  unfold givesIv at h
  split at h
  · rename_i z hz
    rw [← eqIV_ok h]
    exact evShut_fc (evF_ok hB hT M L n) hz
  · cases h
/-- A closed call that comes to 'true'. -/
def saysTrue : Option (TV × Slots) → Bool
  | some (.iv (.bool true), _) => true
  | _ => false
theorem FC.ofEv {P : Program} {B : Base} (hB : BaseOk P B) {T : Tab} (hT : TabOk P T) {M : List (Nat × Nat)} {L n : Nat} {f : FuncId} (h : saysTrue (evF B T M L n f [] []) = true) : FC P f [] (· = .bool true) := by
  unfold saysTrue at h
  split at h
  · rename_i σ' he
    refine .ofGC ((evF_ok hB hT M L n _ _ _ _ _ he).2.mono ?_)
    rintro r σ ⟨rfl, rfl⟩
    exact ⟨_, _, rfl, rfl⟩
  · cases h

end Go.Proofs.YtdlgenppdgkacaaGreatDoor.Ag
