/- Regions that draw their order: new places made out of turn, reads out of turn, and other operations that keep their turn among all that touch places. -/
import Derived.Test.YtdlgenppdgkacaaGreatDoorAgC
set_option linter.unusedVariables false
set_option linter.unusedSimpArgs false
set_option linter.unusedSectionVars false
namespace Go.Proofs.YtdlgenppdgkacaaGreatDoor.Ag
open Go.RowKit (Below)

/-- One operation: it turns no place (a read, with 1000000, of places of X alone); it makes the place 'Pl k', which was none (with 5000000); or it has its turn among all that touch places (with 2000000 behind all reads). -/
def DOneM (P : Program) (bd X : List Nat) (Pl : Nat → Nat) (k : Nat) (i : AIns) (s s' : St) : Prop :=
  (bd.contains k = false ∧ ∃ r, (FStep P s.ρ i.op r ∨ (bd.contains (k + 1000000) = true ∧ ∀ σ', (∀ p ∈ X, lk σ' p = lk s.σ p) → aop s.ρ σ' i.op = some (r, σ'))) ∧ s' = s.put i.dst r) ∨
  ((bd.contains k = false ∧ bd.contains (k + 5000000) = true) ∧ ∃ r n it, Pl k ∉ X ∧ lk s.σ (Pl k) = none ∧ (∀ σ', lk σ' (Pl k) = none → aop s.ρ σ' (setK (Pl k) i.op) = some (r, upd σ' (Pl k) (n, it))) ∧ s' = ({ s with σ := upd s.σ (Pl k) (n, it) }.put i.dst r)) ∨
  (bd.contains k = true ∧ ∃ r σ', BStep P s.ρ s.σ i.op r σ' ∧ (bd.contains (k + 2000000) = false → ∀ p ∈ X, lk σ' p = lk s.σ p) ∧ s' = ({ s with σ := σ' }.put i.dst r))
def DStepM (P : Program) (bd X : List Nat) (Pl : Nat → Nat) (k : Nat) (i : AIns) (s s' : St) : Prop :=
  match i.guard with
  | none => DOneM P bd X Pl k i s s'
  | some (t, want) => (lk s.ρ t = some .dead ∧ s' = s.put i.dst .dead) ∨ ∃ c, lk s.ρ t = some (.iv (.bool c)) ∧ (c = want → DOneM P bd X Pl k i s s') ∧ (c ≠ want → s' = s.put i.dst .dead)

section
variable {P : Program} {N : Nat} {ops : Array Oper} {is : List AIns} {bd X : List Nat} {Pl : Nat → Nat} {anc : List (List Nat)} {S : Nat → St}
structure ChainM (P : Program) (is : List AIns) (bd X : List Nat) (Pl : Nat → Nat) (S : Nat → St) : Prop where
  step : ∀ (i : Nat) (x : AIns), is[i]? = some x → DStepM P bd X Pl i x (S i) (S (i + 1))
theorem ChainM.lk1 (ch : ChainM P is bd X Pl S) {i : Nat} {x : AIns} (hx : is[i]? = some x) (t : Nat) (ht : x.dst ≠ some t) : lk (S (i + 1)).ρ t = lk (S i).ρ t := by
  have h := ch.step i x hx
  have one : DOneM P bd X Pl i x (S i) (S (i + 1)) → Ag.lk (S (i + 1)).ρ t = Ag.lk (S i).ρ t := by
    rintro (⟨_, r, _, e⟩ | ⟨_, r, n, it, _, _, _, e⟩ | ⟨_, r, σ', _, _, e⟩)
    · rw [e, lk_put, if_neg ht]
    · rw [e, lk_put, if_neg ht]
    · rw [e, lk_put, if_neg ht]
  unfold DStepM at h
  split at h
  · exact one h
  · rcases h with ⟨_, h2⟩ | ⟨c, _, h1, h2⟩
    · rw [h2, lk_put, if_neg ht]
    rename_i t' want hguard hlk
    by_cases hcw : c = want
    · exact one (h1 hcw)
    · rw [h2 hcw, lk_put, if_neg ht]
theorem ChainM.lk_same (ch : ChainM P is bd X Pl S) (t : Nat) : ∀ (k i : Nat), i + k ≤ is.length → (∀ (j : Nat) (x : AIns), i ≤ j → j < i + k → is[j]? = some x → x.dst ≠ some t) → Ag.lk (S (i + k)).ρ t = Ag.lk (S i).ρ t
  | 0, i, _, _ => rfl
  | k + 1, i, hl, hb => by
    have hx : is[i + k]? = some (is[i + k]'(by omega)) := by simp
    have := ch.lk1 hx t (hb (i + k) _ (by omega) (by omega) hx)
    rw [show i + (k + 1) = i + k + 1 by omega, this]
    exact ChainM.lk_same ch t k i (by omega) (fun j x h1 h2 => hb j x h1 (by omega))
/-- What an operation does to the places. -/
theorem ChainM.σ1 (ch : ChainM P is bd X Pl S) {i : Nat} {x : AIns} (hx : is[i]? = some x) : (S (i + 1)).σ = (S i).σ ∨
    (bd.contains i = false ∧ bd.contains (i + 5000000) = true ∧ Pl i ∉ X ∧ Ag.lk (S i).σ (Pl i) = none ∧ ∃ v, (S (i + 1)).σ = upd (S i).σ (Pl i) v) ∨
    (bd.contains i = true ∧ (bd.contains (i + 2000000) = false → ∀ p ∈ X, Ag.lk (S (i + 1)).σ p = Ag.lk (S i).σ p)) := by
  have h := ch.step i x hx
  have one : DOneM P bd X Pl i x (S i) (S (i + 1)) → (S (i + 1)).σ = (S i).σ ∨
      (bd.contains i = false ∧ bd.contains (i + 5000000) = true ∧ Pl i ∉ X ∧ Ag.lk (S i).σ (Pl i) = none ∧ ∃ v, (S (i + 1)).σ = upd (S i).σ (Pl i) v) ∨
      (bd.contains i = true ∧ (bd.contains (i + 2000000) = false → ∀ p ∈ X, Ag.lk (S (i + 1)).σ p = Ag.lk (S i).σ p)) := by
    rintro (⟨_, r, _, e⟩ | ⟨⟨h0, h00⟩, r, n, it, h1, h2, _, e⟩ | ⟨h0, r, σ', _, h1, e⟩)
    · exact .inl (by rw [e, St.put_σ])
    · exact .inr (.inl ⟨h0, h00, h1, h2, _, by rw [e, St.put_σ]⟩)
    · exact .inr (.inr ⟨h0, fun hn p hp => by rw [e, St.put_σ]; exact h1 hn p hp⟩)
  unfold DStepM at h
  split at h
  · exact one h
  · rcases h with ⟨_, h2⟩ | ⟨c, _, h1, h2⟩
    · exact .inl (by rw [h2, St.put_σ])
    rename_i t' want hguard hlk
    by_cases hcw : c = want
    · exact one (h1 hcw)
    · exact .inl (by rw [h2 hcw, St.put_σ])
theorem ChainM.nb (ch : ChainM P is bd X Pl S) {j p : Nat} (hj : j < is.length) (hb : bd.contains j = false) (h : chg S j p) :
    bd.contains (j + 5000000) = true ∧ p = Pl j ∧ p ∉ X ∧ Ag.lk (S j).σ p = none ∧ (Ag.lk (S (j + 1)).σ p).isSome = true := by
  have hx : is[j]? = some (is[j]'hj) := by simp
  rcases ch.σ1 hx with h1 | ⟨_, h0, h1, h2, v, h3⟩ | ⟨h1, _⟩
  · unfold chg at h; rw [h1] at h; exact absurd rfl h
  · by_cases e : Pl j = p
    · subst e; exact ⟨h0, rfl, h1, h2, by rw [h3, lk_upd, if_pos rfl]; rfl⟩
    · unfold chg at h; rw [h3, lk_upd, if_neg e] at h; exact absurd rfl h
  · rw [hb] at h1; cases h1
/-- What touches places is marked. -/
theorem ChainM.mark (ch : ChainM P is bd X Pl S) {j p : Nat} (hj : j < is.length) (h : chg S j p) : bd.contains j = true ∨ bd.contains (j + 5000000) = true := by
  cases hb : bd.contains j with
  | true => exact .inl rfl
  | false => exact .inr (ch.nb hj hb h).1
theorem ChainM.keep (ch : ChainM P is bd X Pl S) {p : Nat} : ∀ (k j : Nat), j + k ≤ is.length → (∀ b, j ≤ b → b < j + k → bd.contains b = false) → (Ag.lk (S j).σ p).isSome = true → Ag.lk (S (j + k)).σ p = Ag.lk (S j).σ p
  | 0, j, _, _, _ => rfl
  | k + 1, j, hl, hb, h => by
    have h1 := ChainM.keep ch k j (by omega) (fun b h1 h2 => hb b h1 (by omega)) h
    rw [show j + (k + 1) = j + k + 1 by omega, ← h1]
    by_cases hc : chg S (j + k) p
    · have := (ch.nb (by omega) (hb (j + k) (by omega) (by omega)) hc).2.2.2.1
      rw [h1] at this; rw [this] at h; cases h
    · exact Classical.not_not.1 hc
theorem ChainM.same (ch : ChainM P is bd X Pl S) {p : Nat} : ∀ (k m : Nat), (∀ j, m ≤ j → j < m + k → ¬ chg S j p) → Ag.lk (S (m + k)).σ p = Ag.lk (S m).σ p
  | 0, m, _ => rfl
  | k + 1, m, h => by
    have h1 := Classical.not_not.1 (h (m + k) (by omega) (by omega))
    rw [show m + (k + 1) = m + k + 1 by omega, h1]; exact ChainM.same ch k m fun j h1 h2 => h j h1 (by omega)

/-- What holds while the operations of 'L' have been done: 'm' is behind the last of those that have their turn. -/
structure DInvM (N : Nat) (ops : Array Oper) (is : List AIns) (bd : List Nat) (S : Nat → St) (K0 : Kr) (w0 : World) (df : List Deferred) (L : Array Bool) (a : Act) (w : World) : Prop where
  size : L.size = ops.size
  closed : ∀ (j : Nat) (o : Oper), ops[j]? = some o → L[j]? = some true → ∀ e ∈ o.after, bindsAny e = true → L[e.on]? = some true
  defers : a.defers = df
  st : ∃ K s m, SRel N K s a w ∧ Evo K0 (S 0).σ w0 K s.σ w ∧
    (∀ (j : Nat) (y : AIns) (d : Nat), is[j]? = some y → L[j]? = some true → y.dst = some d → lk s.ρ d = lk (S (j + 1)).ρ d) ∧
    (∀ t, (∀ (j : Nat) (y : AIns), is[j]? = some y → L[j]? = some true → y.dst ≠ some t) → lk s.ρ t = lk (S 0).ρ t) ∧
    (m = 0 ∨ ∃ b, m = b + 1 ∧ bd.contains b = true ∧ L[b]? = some true) ∧ (∀ j, bd.contains j = true → L[j]? = some true → j < m) ∧
    (∀ j p, m ≤ j → L[j]? = some true → chg S j p → lk s.σ p = lk (S (j + 1)).σ p) ∧ (∀ p, (∀ j, m ≤ j → L[j]? = some true → ¬ chg S j p) → lk s.σ p = lk (S m).σ p)

theorem at_turnM (hl : is.length = ops.size) (hc : Chk ops is bd anc) (ch : ChainM P is bd X Pl S) {K0 : Kr} {w0 : World} {df : List Deferred} {L : Array Bool} {a : Act} {w : World} (hi : DInvM N ops is bd S K0 w0 df L a w)
    {i : Nat} {x : AIns} (hx : is[i]? = some x) (hL : L[i]? = some false) (hready : ∀ o : Oper, ops[i]? = some o → ∀ e ∈ o.after, bindsAny e = true → L[e.on]? = some true)
    {s : St} (h1 : ∀ (j : Nat) (y : AIns) (d : Nat), is[j]? = some y → L[j]? = some true → y.dst = some d → lk s.ρ d = lk (S (j + 1)).ρ d) (h2 : ∀ t, (∀ (j : Nat) (y : AIns), is[j]? = some y → L[j]? = some true → y.dst ≠ some t) → lk s.ρ t = lk (S 0).ρ t) :
    ∀ t ∈ readsOf x, lk s.ρ t = lk (S i).ρ t := by
  intro t ht
  have hilt : i < is.length := (List.getElem?_eq_some_iff.1 hx).1
  by_cases hw : ∃ (j : Nat) (y : AIns), j < i ∧ is[j]? = some y ∧ y.dst = some t
  · obtain ⟨j, y, hji, hy, hd⟩ := hw
    have hcl : clash bd j i y x = true := by simp [clash, hd, ht]
    have hLj := anc_done hc hi.closed hi.size i hready j (hc.ord j i y x hji hy hx hcl) (by omega)
    rw [h1 j y t hy hLj hd]
    have := ch.lk_same t (i - (j + 1)) (j + 1) (by omega) (fun k z hk1 hk2 hz e => hc.dst j k y z t (by omega) hy hz hd e)
    rw [show j + 1 + (i - (j + 1)) = i by omega] at this
    exact this.symm
  · have h0 : lk (S i).ρ t = lk (S 0).ρ t := by
      have := ch.lk_same t i 0 (by omega) (fun k z _ hk2 hz e => hw ⟨k, z, by omega, hz, e⟩)
      simpa using this
    rw [h0]
    refine h2 t fun j y hy hLj e => ?_
    rcases Nat.lt_trichotomy j i with h | h | h
    · exact hw ⟨j, y, h, hy, e⟩
    · subst h; rw [hL] at hLj; cases hLj
    · have hjlt : j < is.length := (List.getElem?_eq_some_iff.1 hy).1
      have hcl : clash bd i j x y = true := by simp [clash, e, ht]
      have := anc_done hc hi.closed hi.size j (fun o ho e' he' hb' => hi.closed j o ho hLj e' he' hb') i (hc.ord i j x y h hx hy hcl) (by omega)
      rw [hL] at this; cases this

theorem anc_below (hc : Chk ops is bd anc) : ∀ (j : Nat), j < ops.size → ∀ a ∈ anc.getD j [], a < j := by
  intro j
  induction j using Nat.strongRecOn with
  | _ j ih =>
    intro hlt a ha
    have ho : ops[j]? = some ops[j] := by simp [hlt]
    obtain ⟨e, he, hb, hlt2, h1⟩ := hc.up j _ ho a ha
    rcases h1 with rfl | h1
    · exact hlt2
    · have := ih e.on hlt2 (by omega) a h1; omega
/-- Two that touch places, one of which keeps its turn, are ordered. -/
theorem ord_touch (hl : is.length = ops.size) (hc : Chk ops is bd anc) {i j : Nat} (hij : i < j) (hj : j < ops.size) (h : (bd.contains i = true ∧ (bd.contains j = true ∨ bd.contains (j + 5000000) = true)) ∨ (bd.contains j = true ∧ (bd.contains i = true ∨ bd.contains (i + 5000000) = true))) : i ∈ anc.getD j [] := by
  have hx : is[i]? = some (is[i]'(by omega)) := by simp
  have hy : is[j]? = some (is[j]'(by omega)) := by simp
  refine hc.ord i j _ _ hij hx hy ?_
  unfold clash
  rcases h with ⟨h1, h2 | h2⟩ | ⟨h1, h2 | h2⟩ <;> simp only [h1, h2, Bool.and_self, Bool.or_true, Bool.true_or, Bool.and_true]

/-- Where all that touch places ahead of 'i' have been done, and none behind, the places are what they are in the text's order. -/
theorem cur_at (hl : is.length = ops.size) (hc : Chk ops is bd anc) (ch : ChainM P is bd X Pl S) {L : Array Bool} (hsz : L.size = ops.size) {s : St} {m i : Nat} (hi : i ≤ is.length)
    (hA : ∀ j, j < i → (bd.contains j = true ∨ bd.contains (j + 5000000) = true) → L[j]? = some true) (hB : ∀ j, i ≤ j → L[j]? = some true → ¬ (bd.contains j = true ∨ bd.contains (j + 5000000) = true))
    (hm : m = 0 ∨ ∃ b, m = b + 1 ∧ bd.contains b = true ∧ L[b]? = some true) (hb : ∀ j, bd.contains j = true → L[j]? = some true → j < m)
    (h3 : ∀ j p, m ≤ j → L[j]? = some true → chg S j p → lk s.σ p = lk (S (j + 1)).σ p) (h4 : ∀ p, (∀ j, m ≤ j → L[j]? = some true → ¬ chg S j p) → lk s.σ p = lk (S m).σ p) :
    ∀ p, lk s.σ p = lk (S i).σ p := by
  intro p
  have lt : ∀ j, L[j]? = some true → j < is.length := fun j hj => by have := (Array.getElem?_eq_some_iff.1 hj).1; rw [hsz] at this; omega
  have hmi : m ≤ i := by
    rcases hm with rfl | ⟨b, rfl, h1, h2⟩
    · omega
    · rcases Nat.lt_or_ge b i with h | h
      · omega
      · exact absurd (.inl h1) (hB b h h2)
  have nob : ∀ b, m ≤ b → b < i → bd.contains b = false := by
    intro b h1 h2
    cases hbb : bd.contains b with
    | false => rfl
    | true => have := hb b hbb (hA b h2 (.inl hbb)); omega
  by_cases hex : ∃ j, m ≤ j ∧ j < i ∧ chg S j p
  · obtain ⟨j, h1, h2, h5⟩ := hex
    have hn := ch.nb (by omega) (nob j h1 h2) h5
    rw [h3 j p h1 (hA j h2 (.inr hn.1)) h5]
    have := ch.keep (p := p) (i - (j + 1)) (j + 1) (by omega) (fun b h6 h7 => nob b (by omega) (by omega)) hn.2.2.2.2
    rw [show j + 1 + (i - (j + 1)) = i by omega] at this
    exact this.symm
  · rw [h4 p fun j h1 h2 h5 => by
      rcases Nat.lt_or_ge j i with h | h
      · exact hex ⟨j, h1, h, h5⟩
      · exact hB j h h2 (ch.mark (lt j h2) h5)]
    have := ch.same (p := p) (i - m) m fun j h1 h2 h5 => hex ⟨j, h1, by omega, h5⟩
    rw [show m + (i - m) = i by omega] at this
    exact this.symm

/-- One more operation has been done. -/
theorem DInvM.next (hl : is.length = ops.size) (hc : Chk ops is bd anc) (ch : ChainM P is bd X Pl S) {K0 : Kr} {w0 : World} {df : List Deferred} {L : Array Bool} {a : Act} {w : World} (hi : DInvM N ops is bd S K0 w0 df L a w)
    {i : Nat} {x : AIns} (hx : is[i]? = some x) (hL : L[i]? = some false) (hready : ∀ o : Oper, ops[i]? = some o → ∀ e ∈ o.after, bindsAny e = true → L[e.on]? = some true)
    {K : Kr} {s : St} (hE : Evo K0 (S 0).σ w0 K s.σ w)
    (h1 : ∀ (j : Nat) (y : AIns) (d : Nat), is[j]? = some y → L[j]? = some true → y.dst = some d → lk s.ρ d = lk (S (j + 1)).ρ d) (h2 : ∀ t, (∀ (j : Nat) (y : AIns), is[j]? = some y → L[j]? = some true → y.dst ≠ some t) → lk s.ρ t = lk (S 0).ρ t)
    {K' : Kr} {s' : St} {a' : Act} {w' : World} (hs' : SRel N K' s' a' w') (hE' : Evo K s.σ w K' s'.σ w') (hd : a'.defers = a.defers)
    (hρ : ∀ t, lk s'.ρ t = if x.dst = some t then lk (S (i + 1)).ρ t else lk s.ρ t) {m' : Nat}
    (hm : m' = 0 ∨ ∃ b, m' = b + 1 ∧ bd.contains b = true ∧ (L.setIfInBounds i true)[b]? = some true) (hb : ∀ j, bd.contains j = true → (j = i ∨ L[j]? = some true) → j < m')
    (h3 : ∀ j p, m' ≤ j → (j = i ∨ L[j]? = some true) → chg S j p → lk s'.σ p = lk (S (j + 1)).σ p) (h4 : ∀ p, (∀ j, m' ≤ j → (j = i ∨ L[j]? = some true) → ¬ chg S j p) → lk s'.σ p = lk (S m').σ p) :
    DInvM N ops is bd S K0 w0 df (L.setIfInBounds i true) a' w' := by
  have hilt : i < ops.size := by have := (List.getElem?_eq_some_iff.1 hx).1; omega
  have hLi : ∀ j : Nat, (L.setIfInBounds i true)[j]? = some true ↔ (j = i ∨ L[j]? = some true) := by
    intro j
    by_cases e : i = j
    · subst e; simp [hi.size, hilt]
    · rw [Array.getElem?_setIfInBounds_ne e]
      constructor
      · exact fun h => .inr h
      · rintro (h | h)
        · exact absurd h.symm e
        · exact h
  refine ⟨by simp [hi.size], ?_, hd.trans hi.defers, K', s', m', hs', hE.trans hE', ?_, ?_, hm, fun j h5 h6 => hb j h5 ((hLi j).1 h6), fun j p h5 h6 => h3 j p h5 ((hLi j).1 h6), fun p h5 => h4 p fun j h6 h7 => h5 j h6 ((hLi j).2 h7)⟩
  · intro j o ho hj e he hbe
    rw [hLi] at hj ⊢
    rcases hj with rfl | hj
    · exact .inr (hready o ho e he hbe)
    · exact .inr (hi.closed j o ho hj e he hbe)
  · intro j y d hy hj hd'
    rw [hLi] at hj
    rw [hρ]
    rcases hj with rfl | hj
    · rw [hx] at hy; injection hy with hy; subst hy
      rw [if_pos hd']
    · have hne : j ≠ i := by rintro rfl; rw [hL] at hj; cases hj
      have : x.dst ≠ some d := by
        intro e
        rcases Nat.lt_or_gt_of_ne hne with h | h
        · exact hc.dst j i y x d h hy hx hd' e
        · exact hc.dst i j x y d h hx hy e hd'
      rw [if_neg this]
      exact h1 j y d hy hj hd'
  · intro t ht
    rw [hρ, if_neg (ht i x hx ((hLi i).2 (.inl rfl)))]
    exact h2 t fun j y hy hj => ht j y hy ((hLi j).2 (.inr hj))

theorem crawnM_ok (hl : is.length = ops.size) (hc : Chk ops is bd anc) (ch : ChainM P is bd X Pl S) (htr : ∀ (i : Nat) (o : Oper), ops[i]? = some o → ∃ x c, is[i]? = some x ∧ trIns P N ops c o = some x)
    {K0 : Kr} {w0 : World} {df : List Deferred} {Q : Exit → Act → World → Prop} (hk : ∀ K1 s1 a1 w1, SRel N K1 s1 a1 w1 → Evo K0 (S 0).σ w0 K1 s1.σ w1 → a1.defers = df → (∀ t, lk s1.ρ t = lk (S ops.size).ρ t) → (∀ p, lk s1.σ p = lk (S ops.size).σ p) → Q .normal a1 w1) :
    ∀ (fuel : Nat) (L : Array Bool) (a : Act) (w : World), DInvM N ops is bd S K0 w0 df L a w → (List.range ops.size).countP (fun j => !L.getD j true) ≤ fuel → wpAny P .any ops Q fuel L a w := by
  have fin : ∀ (L : Array Bool) (a : Act) (w : World), DInvM N ops is bd S K0 w0 df L a w → Region.ready .any ops L = [] → Q .normal a w := by
    intro L a w hi hr
    have all : ∀ j, j < ops.size → L[j]? = some true := by
      intro j
      induction j using Nat.strongRecOn with
      | _ j ih =>
        intro hj
        have hjl : j < L.size := by rw [hi.size]; exact hj
        cases hb : L[j] with
        | true => simp [hjl, hb]
        | false =>
          exfalso
          have : j ∈ Region.ready .any ops L := by
            unfold Region.ready
            rw [List.mem_filter]
            refine ⟨by simpa using hj, ?_⟩
            have ho : ops[j]? = some ops[j] := by simp [hj]
            have hLj : L.getD j true = false := by simp [Array.getD_eq_getD_getElem?, hjl, hb]
            rw [hLj, ho]
            simp only [Bool.not_false, Bool.true_and, Option.map_some, Option.getD_some]
            rw [Array.all_eq_true_iff_forall_mem]
            intro e he
            by_cases hbe : Region.binds .any e = true
            · have h1 := hc.back j _ ho e he hbe
              have := ih e.on h1 (by omega)
              simp [Array.getD_eq_getD_getElem?, this]
            · simp [hbe]
          rw [hr] at this
          cases this
    obtain ⟨K, s, m, hs, hE, h1, h2, hm, hb, h3, h4⟩ := hi.st
    refine hk K s a w hs hE hi.defers ?_ ?_
    · intro t
      by_cases hw : ∃ (j : Nat) (y : AIns), is[j]? = some y ∧ y.dst = some t
      · obtain ⟨j, y, hy, hd⟩ := hw
        have hjl : j < is.length := (List.getElem?_eq_some_iff.1 hy).1
        rw [h1 j y t hy (all j (by omega)) hd]
        have := ch.lk_same t (ops.size - (j + 1)) (j + 1) (by omega) (fun k z hk1 _ hz e => hc.dst j k y z t (by omega) hy hz hd e)
        rw [show j + 1 + (ops.size - (j + 1)) = ops.size by omega] at this
        exact this.symm
      · rw [h2 t (fun j y hy _ e => hw ⟨j, y, hy, e⟩)]
        have := ch.lk_same t ops.size 0 (by omega) (fun k z _ _ hz e => hw ⟨k, z, hz, e⟩)
        simpa using this.symm
    · intro p
      have := cur_at hl hc ch hi.size (i := is.length) (Nat.le_refl _) (fun j hj _ => all j (by omega)) (fun j hj hLj => by
        have := (Array.getElem?_eq_some_iff.1 hLj).1; rw [hi.size] at this; omega) hm hb h3 h4 p
      rw [this, hl]
  intro fuel
  induction fuel with
  | zero =>
    intro L a w hi hcnt
    have hr : Region.ready .any ops L = [] := by
      unfold Region.ready
      rw [List.filter_eq_nil_iff]
      intro j hj
      have := List.countP_eq_zero.1 (Nat.le_zero.1 hcnt) j hj
      simp only [Bool.not_eq_true] at this
      rw [this]
      simp
    exact ⟨hr, fin L a w hi hr⟩
  | succ fuel ih =>
    intro L a w hi hcnt
    refine ⟨fun hr => fin L a w hi hr, ?_⟩
    intro i hir
    unfold Region.ready at hir
    rw [List.mem_filter] at hir
    obtain ⟨hir1, hir2⟩ := hir
    have hilt : i < ops.size := by simpa using hir1
    have hil : i < L.size := by rw [hi.size]; exact hilt
    have ho : ops[i]? = some ops[i] := by simp [hilt]
    simp only [Bool.and_eq_true, Bool.not_eq_true', ho, Option.map_some, Option.getD_some] at hir2
    have hLi : L[i]? = some false := by
      have := hir2.1
      simp only [Array.getD_eq_getD_getElem?, Array.getElem?_eq_getElem hil, Option.getD_some] at this
      simp [hil, this]
    have hready : ∀ o : Oper, ops[i]? = some o → ∀ e ∈ o.after, bindsAny e = true → L[e.on]? = some true := by
      intro o ho' e he hb
      rw [ho] at ho'; injection ho' with ho'; subst ho'
      have := (Array.all_eq_true_iff_forall_mem.1 hir2.2) e he
      have hb' : Region.binds .any e = true := hb
      rw [hb'] at this
      simp only [Bool.not_true, Bool.false_or] at this
      cases hL2 : L[e.on]? with
      | none => simp [Array.getD_eq_getD_getElem?, hL2] at this
      | some b => simp [Array.getD_eq_getD_getElem?, hL2] at this; rw [this]
    obtain ⟨x, c, hx, hxtr⟩ := htr i _ ho
    obtain ⟨K, s, m, hs, hE, h1, h2, hm, hb, h3, h4⟩ := hi.st
    have hturn := at_turnM hl hc ch hi hx hLi hready h1 h2
    obtain ⟨w1, w2, w3, w4, w5, w6, w7⟩ := wanted_of hxtr hs
    have hstep := ch.step i x hx
    have hcnt' : (List.range ops.size).countP (fun j => !(L.setIfInBounds i true).getD j true) ≤ fuel := by
      have hlt := countP_lt (p := fun j => !L.getD j true) (q := fun j => !(L.setIfInBounds i true).getD j true) (l := List.range ops.size) (fun j hj => by
        by_cases e : i = j
        · subst e; simp [Array.getD_eq_getD_getElem?, hil] at hj
        · simpa [Array.getD_eq_getD_getElem?, Array.getElem?_setIfInBounds_ne e] using hj) (i := i) hir1 (by simpa using hir2.1) (by simp [Array.getD_eq_getD_getElem?, hil])
      omega
    have hev : ∀ y ∈ opds x.op, ev s.ρ y = ev (S i).ρ y := by
      intro y hy
      cases y with
      | t n => exact hturn n (reads_mem hy)
      | c v => rfl
    have hilen : i < is.length := by omega
    have ltd : ∀ j, L[j]? = some true → j < ops.size := fun j hj => by have := (Array.getElem?_eq_some_iff.1 hj).1; rw [hi.size] at this; exact this
    have notI : L[i]? ≠ some true := by rw [hLi]; simp
    have ancDone : ∀ j, j ∈ anc.getD i [] → L[j]? = some true := fun j hj => anc_done hc hi.closed hi.size i hready j hj hilt
    have ancOf : ∀ j k, L[k]? = some true → j ∈ anc.getD k [] → L[j]? = some true := fun j k hk hj => anc_done hc hi.closed hi.size k (fun o ho e he hb => hi.closed k o ho hk e he hb) j hj (ltd k hk)
    -- at the turn of one that keeps its turn the places are what they are in the text's order
    have barrier : bd.contains i = true → ∀ p, lk s.σ p = lk (S i).σ p := by
      intro hbi
      refine cur_at hl hc ch hi.size (by omega) (fun j hj ht => ancDone j (ord_touch hl hc hj hilt (.inr ⟨hbi, ht⟩))) (fun j hj hLj ht => ?_) hm hb h3 h4
      rcases Nat.lt_or_ge i j with h | h
      · exact notI (ancOf i j hLj (ord_touch hl hc h (ltd j hLj) (.inl ⟨hbi, ht⟩)))
      · obtain rfl : j = i := by omega
        exact notI hLj
    have bnext : bd.contains i = true → ∀ {K' : Kr} {s' : St} {a' : Act} {w' : World}, SRel N K' s' a' w' → Evo K s.σ w K' s'.σ w' → a'.defers = a.defers → (∀ t, lk s'.ρ t = if x.dst = some t then lk (S (i + 1)).ρ t else lk s.ρ t) → (∀ p, lk s'.σ p = lk (S (i + 1)).σ p) →
        DInvM N ops is bd S K0 w0 df (L.setIfInBounds i true) a' w' := by
      intro hbi K' s' a' w' g1 g2 g3 g4 g5
      have behind : ∀ j, i < j → L[j]? = some true → ¬ (bd.contains j = true ∨ bd.contains (j + 5000000) = true) := fun j hj hLj ht => notI (ancOf i j hLj (ord_touch hl hc hj (ltd j hLj) (.inl ⟨hbi, ht⟩)))
      refine hi.next hl hc ch hx hLi hready hE h1 h2 g1 g2 g3 g4 (m' := i + 1) (.inr ⟨i, rfl, hbi, by simp [hi.size, hilt]⟩) ?_ ?_ ?_
      · rintro j hj (rfl | hLj)
        · omega
        · rcases Nat.lt_or_ge i j with h | h
          · exact absurd (.inl hj) (behind j h hLj)
          · omega
      · rintro j p hj (rfl | hLj) hcj
        · omega
        · exact absurd (ch.mark (by have := ltd j hLj; omega) hcj) (behind j (by omega) hLj)
      · intro p _; exact g5 p
    have above : bd.contains (i + 5000000) = true → bd.contains i = false → m ≤ i ∧ (∀ b, m ≤ b → b < i → bd.contains b = false) ∧ ∀ j b, i < j → L[j]? = some true → bd.contains (j + 5000000) = true → i < b → b < j → bd.contains b = false := by
      intro hci hbi
      have hmi : m ≤ i := by
        rcases hm with rfl | ⟨b, rfl, g1, g2⟩
        · omega
        · rcases Nat.lt_or_ge i b with h | h
          · exact absurd (ancOf i b g2 (ord_touch hl hc h (ltd b g2) (.inr ⟨g1, .inr hci⟩))) notI
          · rcases Nat.lt_or_ge b i with h' | h'
            · omega
            · obtain rfl : b = i := by omega
              rw [hbi] at g1; cases g1
      refine ⟨hmi, ?_, ?_⟩
      · intro b g1 g2
        cases hbb : bd.contains b with
        | false => rfl
        | true => have := hb b hbb (ancDone b (ord_touch hl hc g2 hilt (.inl ⟨hbb, .inr hci⟩))); omega
      · intro j b g1 g2 g3 g4 g5
        cases hbb : bd.contains b with
        | false => rfl
        | true => have := hb b hbb (ancOf b j g2 (ord_touch hl hc g5 (ltd j g2) (.inl ⟨hbb, .inr g3⟩))); omega
    have hXi : bd.contains i = false → bd.contains (i + 1000000) = true → ∀ p ∈ X, lk s.σ p = lk (S i).σ p := by
      intro hbi hri p hp
      have noB : ∀ j, j < is.length → bd.contains j = false → ¬ chg S j p := fun j hj hbj hcj => (ch.nb hj hbj hcj).2.2.1 hp
      have e0 : lk s.σ p = lk (S m).σ p := h4 p fun j g1 g2 => noB j (by have := ltd j g2; omega) (by
        cases hbj : bd.contains j with
        | false => rfl
        | true => have := hb j hbj g2; omega)
      have keepX : ∀ j, j < is.length → (bd.contains j = true → bd.contains (j + 2000000) = false) → ¬ chg S j p := by
        intro j hj hlate hcj
        cases hbj : bd.contains j with
        | false => exact noB j hj hbj hcj
        | true =>
          rcases ch.σ1 (show is[j]? = some (is[j]'hj) by simp) with g | ⟨g, _⟩ | ⟨_, g⟩
          · unfold chg at hcj; rw [g] at hcj; exact hcj rfl
          · rw [hbj] at g; cases g
          · exact hcj (g (hlate hbj) p hp)
      rw [e0]
      rcases Nat.le_total m i with hmi | hmi
      · have := ch.same (p := p) (i - m) m fun j g1 g2 => keepX j (by omega) fun hbj => by
          cases hlt : bd.contains (j + 2000000) with
          | false => rfl
          | true =>
            have := anc_below hc j (by omega) i (hc.ex i j hilt (by omega) hbj hlt hri)
            omega
        rw [show m + (i - m) = i by omega] at this
        exact this.symm
      · rcases hm with rfl | ⟨b, rfl, g1, g2⟩
        · obtain rfl : i = 0 := by omega
          rfl
        · have hbl := ltd b g2
          have hbi' : i ≠ b := by rintro rfl; rw [hbi] at g1; cases g1
          have := ch.same (p := p) (b + 1 - i) i fun j g3 g4 => keepX j (by omega) fun hbj => by
            cases hlt : bd.contains (j + 2000000) with
            | false => rfl
            | true =>
              have hLj : L[j]? = some true := by
                rcases Nat.lt_or_ge j b with h | h
                · exact ancOf j b g2 (ord_touch hl hc h hbl (.inl ⟨hbj, .inl g1⟩))
                · obtain rfl : j = b := by omega
                  exact g2
              exact absurd (ancOf i j hLj (hc.ex i j hilt (by omega) hbj hlt hri)) notI
          rw [show i + (b + 1 - i) = b + 1 by omega] at this
          exact this
    have rnext : bd.contains i = false → (S (i + 1)).σ = (S i).σ → ∀ {K' : Kr} {s' : St} {a' : Act} {w' : World}, SRel N K' s' a' w' → Evo K s.σ w K' s'.σ w' → a'.defers = a.defers → (∀ t, lk s'.ρ t = if x.dst = some t then lk (S (i + 1)).ρ t else lk s.ρ t) → s'.σ = s.σ →
        DInvM N ops is bd S K0 w0 df (L.setIfInBounds i true) a' w' := by
      intro hbi hsame K' s' a' w' g1 g2 g3 g4 g5
      refine hi.next hl hc ch hx hLi hready hE h1 h2 g1 g2 g3 g4 (m' := m) ?_ ?_ ?_ ?_
      · rcases hm with e | ⟨b, e, g6, g7⟩
        · exact .inl e
        · refine .inr ⟨b, e, g6, ?_⟩
          by_cases e' : i = b
          · subst e'; rw [hbi] at g6; cases g6
          · rw [Array.getElem?_setIfInBounds_ne e']; exact g7
      · rintro j hj (rfl | hLj)
        · rw [hbi] at hj; cases hj
        · exact hb j hj hLj
      · rintro j p hj (rfl | hLj) hcj
        · unfold chg at hcj; rw [hsame] at hcj; exact absurd rfl hcj
        · rw [g5]; exact h3 j p hj hLj hcj
      · intro p hp
        rw [g5]; exact h4 p fun j g6 g7 => hp j g6 (.inr g7)
    have go : DOneM P bd X Pl i x (S i) (S (i + 1)) →
        ops[i].wp P a w (wpAny P .any ops Q fuel (L.setIfInBounds i true)) Q := by
      intro h
      rcases h with ⟨hbi, r, hf, e⟩ | ⟨⟨hbi, hci⟩, r, n, it, hX, hn, hf, e⟩ | ⟨hbi, r, σ', hbs, hlate, e⟩
      · obtain ⟨R, hst, hR⟩ : ∃ R, Step P s x.op R ∧ ∀ r' σ', R r' σ' → r' = r ∧ σ' = s.σ := by
          rcases hf with hf | ⟨hri, hf⟩
          · exact hf.step s hev
          · have h5 := hf s.σ (hXi hbi hri)
            exact ⟨_, .op x.op r s.σ (by rw [aop_congr hev]; exact h5), fun r' σ' hr => hr⟩
        refine Oper.wp_mono ?_ (hst.wp (N := N) w3 w4 K a w Q hs)
        rintro a1 w1' ⟨r', σ', K', u, rfl, hr', g1, g2, g3⟩
        obtain ⟨rfl, rfl⟩ := hR r' σ' hr'
        have hs1 := TRel.put hs g3.le g2 g1 w2
        refine ih _ _ _ (rnext hbi (by rw [e, St.put_σ]) hs1 (by rw [St.put_σ]; exact g3) (put_defers _ _ _) ?_ (by rw [St.put_σ])) hcnt'
        intro t
        rw [lk_put, w1]
        by_cases e' : ops[i].dst = some t
        · rw [if_pos e', if_pos e', e, lk_put, if_pos (w1.trans e')]
        · rw [if_neg e', if_neg e']
      · obtain ⟨hmi, nob, nob2⟩ := above hci hbi
        have hv : lk (S (i + 1)).σ (Pl i) = some (n, it) := by rw [e, St.put_σ, lk_upd, if_pos rfl]
        have hchg : chg S i (Pl i) := by unfold chg; rw [hv, hn]; simp
        have notB : ∀ j, m ≤ j → L[j]? = some true → bd.contains j = false := fun j g1 g2 => by
          cases hbj : bd.contains j with
          | false => rfl
          | true => have := hb j hbj g2; omega
        have nochg : ∀ j, m ≤ j → L[j]? = some true → ¬ chg S j (Pl i) := by
          intro j g1 g2 hcj
          have hjl : j < is.length := by have := ltd j g2; omega
          have hnb := ch.nb hjl (notB j g1 g2) hcj
          rcases Nat.lt_trichotomy j i with h | h | h
          · have := ch.keep (p := Pl i) (i - (j + 1)) (j + 1) (by omega) (fun b g3 g4 => nob b (by omega) (by omega)) hnb.2.2.2.2
            rw [show j + 1 + (i - (j + 1)) = i by omega, hn] at this
            rw [← this] at hnb
            cases hnb.2.2.2.2
          · subst h; exact notI g2
          · have := ch.keep (p := Pl i) (j - (i + 1)) (i + 1) (by omega) (fun b g3 g4 => nob2 j b h g2 hnb.1 (by omega) (by omega)) (by rw [hv]; rfl)
            rw [show i + 1 + (j - (i + 1)) = j by omega, hv, hnb.2.2.2.1] at this
            cases this
        have hfree : lk s.σ (Pl i) = none := by
          rw [h4 (Pl i) nochg]
          cases hmm : lk (S m).σ (Pl i) with
          | none => rfl
          | some v =>
            have := ch.keep (p := Pl i) (i - m) m (by omega) (fun b g3 g4 => nob b g3 (by omega)) (by rw [hmm]; rfl)
            rw [show m + (i - m) = i by omega, hn, hmm] at this
            cases this
        refine Oper.wp_mono ?_ (Step.wp (N := N) w3 w4 (.opK (Pl i) x.op r _ (by rw [aop_congr (by rw [opds_setK]; exact hev)]; exact hf s.σ hfree)) K a w Q hs)
        rintro a1 w1' ⟨r', σ', K', u, rfl, ⟨rfl, rfl⟩, g1, g2, g3⟩
        have hs1 := TRel.put hs g3.le g2 g1 w2
        refine ih _ _ _ (hi.next hl hc ch hx hLi hready hE h1 h2 hs1 (by rw [St.put_σ]; exact g3) (put_defers _ _ _) ?_ (m' := m) ?_ ?_ ?_ ?_) hcnt'
        · intro t
          rw [lk_put, w1]
          by_cases e' : ops[i].dst = some t
          · rw [if_pos e', if_pos e', e, lk_put, if_pos (w1.trans e')]
          · rw [if_neg e', if_neg e']
        · rcases hm with e' | ⟨b, e', g6, g7⟩
          · exact .inl e'
          · refine .inr ⟨b, e', g6, ?_⟩
            by_cases e'' : i = b
            · subst e''; rw [hbi] at g6; cases g6
            · rw [Array.getElem?_setIfInBounds_ne e'']; exact g7
        · rintro j hj (rfl | hLj)
          · rw [hbi] at hj; cases hj
          · exact hb j hj hLj
        · rintro j p hj (rfl | hLj) hcj
          · have := (ch.nb hilen hbi hcj).2.1
            subst this
            rw [St.put_σ, lk_upd, if_pos rfl, hv]
          · have hne : Pl i ≠ p := by rintro rfl; exact nochg j hj hLj hcj
            rw [St.put_σ, lk_upd, if_neg hne]; exact h3 j p hj hLj hcj
        · intro p hp
          have hne : Pl i ≠ p := by rintro rfl; exact hp i hmi (.inl rfl) hchg
          rw [St.put_σ, lk_upd, if_neg hne]; exact h4 p fun j g6 g7 => hp j g6 (.inr g7)
      · have hcur := barrier hbi
        have hs0 : SRel N K { s with σ := (S i).σ } a w := ⟨hs.size, hs.tmps, hs.slots.congr fun p => (hcur p).symm⟩
        obtain ⟨R, hst, hR⟩ := hbs.step { s with σ := (S i).σ } hev rfl
        refine Oper.wp_mono ?_ (hst.wp (N := N) w3 w4 K a w Q hs0)
        rintro a1 w1' ⟨r', σ'', K', u, rfl, hr', g1, g2, g3⟩
        obtain ⟨rfl, rfl⟩ := hR r' σ'' hr'
        have hs1 := TRel.put hs0 g3.le g2 g1 w2
        have g3' : Evo K s.σ w K' σ'' w1' := ((Evo.refl K s.σ w).congr (σ'' := (S i).σ) fun p => (hcur p).symm).trans g3
        refine ih _ _ _ (bnext hbi hs1 (by rw [St.put_σ]; exact g3') (put_defers _ _ _) ?_ ?_) hcnt'
        · intro t
          rw [lk_put, w1]
          by_cases e' : ops[i].dst = some t
          · rw [if_pos e', if_pos e', e, lk_put, if_pos (w1.trans e')]
          · rw [if_neg e', if_neg e']
        · intro p; rw [St.put_σ, e, St.put_σ]
    show wpOp P ops Q i _ a w
    unfold wpOp
    rw [ho]
    simp only
    unfold DStepM at hstep
    cases hg : x.guard with
    | none =>
      rw [hg] at hstep
      rw [w5 hg, if_pos rfl]
      exact .inl (go hstep)
    | some tw =>
      obtain ⟨t, want⟩ := tw
      rw [hg] at hstep
      -- where it is left out
      have skip : Region.wanted ops[i] (yielded ops a.tmps) = false → S (i + 1) = (S i).put x.dst .dead → (if Region.wanted ops[i] (yielded ops a.tmps) then ops[i].wp P a w (wpAny P .any ops Q fuel (L.setIfInBounds i true)) Q ∨ (ops[i].asks P a w ∧ LetsOut Q) else wpAny P .any ops Q fuel (L.setIfInBounds i true) (a.put ops[i].dst undef) w) := by
        intro hw e
        rw [hw, if_neg (by simp)]
        cases hbi : bd.contains i with
        | false =>
          have hs1 := TRel.put hs (Kr.Le.refl _ _) hs.slots TRel.dead w2
          refine ih _ _ _ (rnext hbi (by rw [e, St.put_σ]) hs1 (by rw [St.put_σ]; exact Evo.refl _ _ _) (put_defers _ _ _) ?_ (by rw [St.put_σ])) hcnt'
          intro t'
          rw [lk_put, w1]
          by_cases e' : ops[i].dst = some t'
          · rw [if_pos e', if_pos e', e, lk_put, if_pos (w1.trans e')]
          · rw [if_neg e', if_neg e']
        | true =>
          have hcur := barrier hbi
          have hs1 := TRel.put hs (Kr.Le.refl _ _) hs.slots TRel.dead w2
          refine ih _ _ _ (bnext hbi hs1 (by rw [St.put_σ]; exact Evo.refl _ _ _) (put_defers _ _ _) ?_ ?_) hcnt'
          · intro t'
            rw [lk_put, w1]
            by_cases e' : ops[i].dst = some t'
            · rw [if_pos e', if_pos e', e, lk_put, if_pos (w1.trans e')]
            · rw [if_neg e', if_neg e']
          · intro p; rw [St.put_σ, e, St.put_σ]; exact hcur p
      rcases hstep with ⟨hb', e⟩ | ⟨b, hb', h5, h6⟩
      · have hbs : lk s.ρ t = some .dead := by rw [hturn t (guard_mem hg)]; exact hb'
        exact skip (w7 t want hg hbs) e
      have hbs : lk s.ρ t = some (.iv (.bool b)) := by rw [hturn t (guard_mem hg)]; exact hb'
      have hwb := w6 t want b hg hbs
      by_cases hbw : b = want
      · rw [hwb, if_pos (by simpa using hbw)]
        exact .inl (go (h5 hbw))
      · exact skip (by rw [hwb]; simpa using hbw) (h6 hbw)
end
theorem DStepM.congr {P : Program} {bd X : List Nat} {Pl Pl' : Nat → Nat} {k : Nat} {i : AIns} {s s' : St} (e : Pl' k = Pl k) (h : DStepM P bd X Pl k i s s') : DStepM P bd X Pl' k i s s' := by
  unfold DStepM DOneM at h ⊢
  rw [e]; exact h
end Go.Proofs.YtdlgenppdgkacaaGreatDoor.Ag
