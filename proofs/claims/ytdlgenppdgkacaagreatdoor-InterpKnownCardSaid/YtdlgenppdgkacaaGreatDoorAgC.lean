/- Regions that draw their order, where all that turns the places makes new ones. -/
import Derived.Test.YtdlgenppdgkacaaGreatDoorAgE
set_option linter.unusedVariables false
set_option linter.unusedSimpArgs false
set_option linter.unusedSectionVars false
namespace Go.Proofs.YtdlgenppdgkacaaGreatDoor.Ag
open Go.RowKit (Below)

theorem SlotsRel.congr {K : Kr} {σ σ' : Slots} {w : World} (h : SlotsRel K σ w) (e : ∀ p, lk σ' p = lk σ p) : SlotsRel K σ' w := by
  refine ⟨fun k n it hl => h.rel k n it (by rw [← e]; exact hl), fun k hl => h.free k (by rw [← e]; exact hl), fun k k' n n' it it' b hl hl' => h.apart k k' n n' it it' b (by rw [← e]; exact hl) (by rw [← e]; exact hl'), ?_, h.old⟩
  rintro b ⟨k, n, it, hl, ho⟩
  exact h.imm b ⟨k, n, it, by rw [← e]; exact hl, ho⟩
theorem Evo.congr {K K' : Kr} {σ σ' σ'' : Slots} {w w' : World} (h : Evo K σ w K' σ' w') (e : ∀ p, lk σ'' p = lk σ' p) : Evo K σ w K' σ'' w' := by
  refine ⟨h.le, h.os, h.tape, h.output, h.size, h.rest, h.newI, ?_⟩
  rintro b ⟨k, n, it, hl, ho⟩
  exact h.newO b ⟨k, n, it, by rw [← e]; exact hl, ho⟩

/-- One operation: it turns no place; or it makes the place 'Pl k', which was none. Reads: of places of X alone, which none makes. -/
def DOneC (P : Program) (X : List Nat) (Pl : Nat → Nat) (k : Nat) (i : AIns) (s s' : St) : Prop :=
  (∃ r, (FStep P s.ρ i.op r ∨ ∀ σ', (∀ p ∈ X, lk σ' p = lk s.σ p) → aop s.ρ σ' i.op = some (r, σ')) ∧ s' = s.put i.dst r) ∨
  (∃ r n it, Pl k ∉ X ∧ lk s.σ (Pl k) = none ∧ (∀ σ', lk σ' (Pl k) = none → aop s.ρ σ' (setK (Pl k) i.op) = some (r, upd σ' (Pl k) (n, it))) ∧ s' = ({ s with σ := upd s.σ (Pl k) (n, it) }.put i.dst r))
def DStepC (P : Program) (X : List Nat) (Pl : Nat → Nat) (k : Nat) (i : AIns) (s s' : St) : Prop :=
  match i.guard with
  | none => DOneC P X Pl k i s s'
  | some (t, want) => (lk s.ρ t = some .dead ∧ s' = s.put i.dst .dead) ∨ ∃ c, lk s.ρ t = some (.iv (.bool c)) ∧ (c = want → DOneC P X Pl k i s s') ∧ (c ≠ want → s' = s.put i.dst .dead)

section
variable {P : Program} {N : Nat} {ops : Array Oper} {is : List AIns} {bd X : List Nat} {Pl : Nat → Nat} {anc : List (List Nat)} {S : Nat → St}
structure ChainC (P : Program) (is : List AIns) (X : List Nat) (Pl : Nat → Nat) (S : Nat → St) : Prop where
  step : ∀ (i : Nat) (x : AIns), is[i]? = some x → DStepC P X Pl i x (S i) (S (i + 1))
theorem ChainC.lk1 (ch : ChainC P is X Pl S) {i : Nat} {x : AIns} (hx : is[i]? = some x) (t : Nat) (ht : x.dst ≠ some t) : lk (S (i + 1)).ρ t = lk (S i).ρ t := by
  have h := ch.step i x hx
  have one : DOneC P X Pl i x (S i) (S (i + 1)) → Ag.lk (S (i + 1)).ρ t = Ag.lk (S i).ρ t := by
    rintro (⟨r, _, e⟩ | ⟨r, n, it, _, _, _, e⟩)
    · rw [e, lk_put, if_neg ht]
    · rw [e, lk_put, if_neg ht]
  unfold DStepC at h
  split at h
  · exact one h
  · rcases h with ⟨_, h2⟩ | ⟨c, _, h1, h2⟩
    · rw [h2, lk_put, if_neg ht]
    rename_i t' want hguard hlk
    by_cases hcw : c = want
    · exact one (h1 hcw)
    · rw [h2 hcw, lk_put, if_neg ht]
/-- What an operation does to the places: nothing, or it makes its own. -/
theorem ChainC.σ1 (ch : ChainC P is X Pl S) {i : Nat} {x : AIns} (hx : is[i]? = some x) : (S (i + 1)).σ = (S i).σ ∨ (Pl i ∉ X ∧ Ag.lk (S i).σ (Pl i) = none ∧ ∃ v, (S (i + 1)).σ = upd (S i).σ (Pl i) v) := by
  have h := ch.step i x hx
  have one : DOneC P X Pl i x (S i) (S (i + 1)) → (S (i + 1)).σ = (S i).σ ∨ (Pl i ∉ X ∧ Ag.lk (S i).σ (Pl i) = none ∧ ∃ v, (S (i + 1)).σ = upd (S i).σ (Pl i) v) := by
    rintro (⟨r, _, e⟩ | ⟨r, n, it, h1, h2, _, e⟩)
    · exact .inl (by rw [e, St.put_σ])
    · exact .inr ⟨h1, h2, _, by rw [e, St.put_σ]⟩
  unfold DStepC at h
  split at h
  · exact one h
  · rcases h with ⟨_, h2⟩ | ⟨c, _, h1, h2⟩
    · exact .inl (by rw [h2, St.put_σ])
    rename_i t' want hguard hlk
    by_cases hcw : c = want
    · exact one (h1 hcw)
    · exact .inl (by rw [h2 hcw, St.put_σ])
def chg (S : Nat → St) (j p : Nat) : Prop := Ag.lk (S (j + 1)).σ p ≠ Ag.lk (S j).σ p
theorem ChainC.chg1 (ch : ChainC P is X Pl S) {j p : Nat} (hj : j < is.length) (h : chg S j p) : p = Pl j ∧ p ∉ X ∧ Ag.lk (S j).σ p = none ∧ (Ag.lk (S (j + 1)).σ p).isSome = true := by
  have hx : is[j]? = some (is[j]'hj) := by simp
  rcases ch.σ1 hx with h1 | ⟨h1, h2, v, h3⟩
  · unfold chg at h; rw [h1] at h; exact absurd rfl h
  · by_cases e : Pl j = p
    · subst e; exact ⟨rfl, h1, h2, by rw [h3, lk_upd, if_pos rfl]; rfl⟩
    · unfold chg at h; rw [h3, lk_upd, if_neg e] at h; exact absurd rfl h
theorem ChainC.keep1 (ch : ChainC P is X Pl S) {j p : Nat} (hj : j < is.length) (h : (Ag.lk (S j).σ p).isSome = true) : Ag.lk (S (j + 1)).σ p = Ag.lk (S j).σ p := by
  by_cases hc : chg S j p
  · have := (ch.chg1 hj hc).2.2.1; rw [this] at h; cases h
  · exact Classical.not_not.1 hc
theorem ChainC.keep (ch : ChainC P is X Pl S) {p : Nat} : ∀ (k j : Nat), j + k ≤ is.length → (Ag.lk (S j).σ p).isSome = true → Ag.lk (S (j + k)).σ p = Ag.lk (S j).σ p
  | 0, j, _, _ => rfl
  | k + 1, j, hl, h => by
    have h1 := ChainC.keep ch k j (by omega) h
    rw [show j + (k + 1) = j + k + 1 by omega, ch.keep1 (by omega) (by rw [h1]; exact h), h1]
theorem ChainC.none0 (ch : ChainC P is X Pl S) {i p : Nat} (hi : i ≤ is.length) (h : Ag.lk (S i).σ p = none) : ∀ j, j ≤ i → Ag.lk (S j).σ p = none := by
  intro j hj
  cases h1 : Ag.lk (S j).σ p with
  | none => rfl
  | some v =>
    have := ch.keep (p := p) (i - j) j (by omega) (by rw [h1]; rfl)
    rw [show j + (i - j) = i by omega, h, h1] at this
    cases this
theorem ChainC.uniq (ch : ChainC P is X Pl S) {i j p : Nat} (hi : i < is.length) (hj : j < is.length) (h1 : chg S i p) (h2 : chg S j p) : i = j := by
  rcases Nat.lt_trichotomy i j with h | h | h
  · have a := (ch.chg1 hi h1).2.2.2
    have b := ch.none0 (by omega) (ch.chg1 hj h2).2.2.1 (i + 1) (by omega)
    rw [b] at a; cases a
  · exact h
  · have a := (ch.chg1 hj h2).2.2.2
    have b := ch.none0 (by omega) (ch.chg1 hi h1).2.2.1 (j + 1) (by omega)
    rw [b] at a; cases a
theorem ChainC.same (ch : ChainC P is X Pl S) {p : Nat} : ∀ (i : Nat), i ≤ is.length → (∀ j, j < i → ¬ chg S j p) → Ag.lk (S i).σ p = Ag.lk (S 0).σ p
  | 0, _, _ => rfl
  | i + 1, hi, h => by
    have h1 := Classical.not_not.1 (h i (by omega))
    rw [h1]; exact ChainC.same ch i (by omega) fun j hj => h j (by omega)
/-- A slot that no operation between writes. -/
theorem ChainC.lk_same (ch : ChainC P is X Pl S) (t : Nat) : ∀ (k i : Nat), i + k ≤ is.length → (∀ (j : Nat) (x : AIns), i ≤ j → j < i + k → is[j]? = some x → x.dst ≠ some t) → Ag.lk (S (i + k)).ρ t = Ag.lk (S i).ρ t
  | 0, i, _, _ => rfl
  | k + 1, i, hl, hb => by
    have hx : is[i + k]? = some (is[i + k]'(by omega)) := by simp
    have := ch.lk1 hx t (hb (i + k) _ (by omega) (by omega) hx)
    rw [show i + (k + 1) = i + k + 1 by omega, this]
    exact ChainC.lk_same ch t k i (by omega) (fun j x h1 h2 => hb j x h1 (by omega))

/-- What holds while the operations of 'L' have been done. -/
structure DInvC (N : Nat) (ops : Array Oper) (is : List AIns) (S : Nat → St) (K0 : Kr) (w0 : World) (df : List Deferred) (L : Array Bool) (a : Act) (w : World) : Prop where
  size : L.size = ops.size
  closed : ∀ (j : Nat) (o : Oper), ops[j]? = some o → L[j]? = some true → ∀ e ∈ o.after, bindsAny e = true → L[e.on]? = some true
  defers : a.defers = df
  st : ∃ K s, SRel N K s a w ∧ Evo K0 (S 0).σ w0 K s.σ w ∧
    (∀ (j : Nat) (y : AIns) (d : Nat), is[j]? = some y → L[j]? = some true → y.dst = some d → lk s.ρ d = lk (S (j + 1)).ρ d) ∧
    (∀ t, (∀ (j : Nat) (y : AIns), is[j]? = some y → L[j]? = some true → y.dst ≠ some t) → lk s.ρ t = lk (S 0).ρ t) ∧
    (∀ j p, L[j]? = some true → chg S j p → lk s.σ p = lk (S (j + 1)).σ p) ∧ (∀ p, (∀ j, L[j]? = some true → ¬ chg S j p) → lk s.σ p = lk (S 0).σ p)
/-- At its turn an operation's operands, and the places, are what they are in the text's order. -/
theorem at_turnC (hl : is.length = ops.size) (hc : Chk ops is bd anc) (ch : ChainC P is X Pl S) {K0 : Kr} {w0 : World} {df : List Deferred} {L : Array Bool} {a : Act} {w : World} (hi : DInvC N ops is S K0 w0 df L a w)
    {i : Nat} {x : AIns} (hx : is[i]? = some x) (hL : L[i]? = some false) (hready : ∀ o : Oper, ops[i]? = some o → ∀ e ∈ o.after, bindsAny e = true → L[e.on]? = some true)
    {s : St} (h1 : ∀ (j : Nat) (y : AIns) (d : Nat), is[j]? = some y → L[j]? = some true → y.dst = some d → lk s.ρ d = lk (S (j + 1)).ρ d) (h2 : ∀ t, (∀ (j : Nat) (y : AIns), is[j]? = some y → L[j]? = some true → y.dst ≠ some t) → lk s.ρ t = lk (S 0).ρ t) :
    ∀ t ∈ readsOf x, lk s.ρ t = lk (S i).ρ t := by
  intro t ht
  have hilt : i < is.length := (List.getElem?_eq_some_iff.1 hx).1
  by_cases hw : ∃ (j : Nat) (y : AIns), j < i ∧ is[j]? = some y ∧ y.dst = some t
  · obtain ⟨j, y, hji, hy, hd⟩ := hw
    have hcl : clash bd j i y x = true := by simp [clash, hd, ht]
    have hLj := anc_done hc hi.closed hi.size i hready j (hc.ord j i y x hji hy hx hcl) (by omega)
    rw [h1 j y t hy hLj hd]
    have := ch.lk_same t (i - (j + 1)) (j + 1) (by omega) (fun k z hk1 hk2 hz e => hc.dst j k y z t (by omega) hy hz hd e)
    rw [show j + 1 + (i - (j + 1)) = i by omega] at this
    exact this.symm
  · have h0 : lk (S i).ρ t = lk (S 0).ρ t := by
      have := ch.lk_same t i 0 (by omega) (fun k z _ hk2 hz e => hw ⟨k, z, by omega, hz, e⟩)
      simpa using this
    rw [h0]
    refine h2 t fun j y hy hLj e => ?_
    rcases Nat.lt_trichotomy j i with h | h | h
    · exact hw ⟨j, y, h, hy, e⟩
    · subst h; rw [hL] at hLj; cases hLj
    · have hjlt : j < is.length := (List.getElem?_eq_some_iff.1 hy).1
      have hcl : clash bd i j x y = true := by simp [clash, e, ht]
      have := anc_done hc hi.closed hi.size j (fun o ho e' he' hb' => hi.closed j o ho hLj e' he' hb') i (hc.ord i j x y h hx hy hcl) (by omega)
      rw [hL] at this; cases this


/-- One more operation has been done. -/
theorem DInvC.next (hl : is.length = ops.size) (hc : Chk ops is bd anc) (ch : ChainC P is X Pl S) {K0 : Kr} {w0 : World} {df : List Deferred} {L : Array Bool} {a : Act} {w : World} (hi : DInvC N ops is S K0 w0 df L a w)
    {i : Nat} {x : AIns} (hx : is[i]? = some x) (hL : L[i]? = some false) (hready : ∀ o : Oper, ops[i]? = some o → ∀ e ∈ o.after, bindsAny e = true → L[e.on]? = some true)
    {K : Kr} {s : St} (hE : Evo K0 (S 0).σ w0 K s.σ w)
    (h1 : ∀ (j : Nat) (y : AIns) (d : Nat), is[j]? = some y → L[j]? = some true → y.dst = some d → lk s.ρ d = lk (S (j + 1)).ρ d) (h2 : ∀ t, (∀ (j : Nat) (y : AIns), is[j]? = some y → L[j]? = some true → y.dst ≠ some t) → lk s.ρ t = lk (S 0).ρ t)
    (h3 : ∀ j p, L[j]? = some true → chg S j p → lk s.σ p = lk (S (j + 1)).σ p) (h4 : ∀ p, (∀ j, L[j]? = some true → ¬ chg S j p) → lk s.σ p = lk (S 0).σ p)
    {K' : Kr} {s' : St} {a' : Act} {w' : World} (hs' : SRel N K' s' a' w') (hE' : Evo K s.σ w K' s'.σ w') (hd : a'.defers = a.defers)
    (hρ : ∀ t, lk s'.ρ t = if x.dst = some t then lk (S (i + 1)).ρ t else lk s.ρ t) (hσ : (s'.σ = s.σ ∧ ∀ p, ¬ chg S i p) ∨ (chg S i (Pl i) ∧ ∃ v, s'.σ = upd s.σ (Pl i) v ∧ lk (S (i + 1)).σ (Pl i) = some v)) :
    DInvC N ops is S K0 w0 df (L.setIfInBounds i true) a' w' := by
  have hilt : i < ops.size := by have := (List.getElem?_eq_some_iff.1 hx).1; omega
  have hLi : ∀ j : Nat, (L.setIfInBounds i true)[j]? = some true ↔ (j = i ∨ L[j]? = some true) := by
    intro j
    by_cases e : i = j
    · subst e; simp [hi.size, hilt]
    · rw [Array.getElem?_setIfInBounds_ne e]
      constructor
      · exact fun h => .inr h
      · rintro (h | h)
        · exact absurd h.symm e
        · exact h
  refine ⟨by simp [hi.size], ?_, hd.trans hi.defers, K', s', hs', hE.trans hE', ?_, ?_, ?_, ?_⟩
  · intro j o ho hj e he hb
    rw [hLi] at hj ⊢
    rcases hj with rfl | hj
    · exact .inr (hready o ho e he hb)
    · exact .inr (hi.closed j o ho hj e he hb)
  · intro j y d hy hj hd'
    rw [hLi] at hj
    rw [hρ]
    rcases hj with rfl | hj
    · rw [hx] at hy; injection hy with hy; subst hy
      rw [if_pos hd']
    · have hne : j ≠ i := by rintro rfl; rw [hL] at hj; cases hj
      have : x.dst ≠ some d := by
        intro e
        rcases Nat.lt_or_gt_of_ne hne with h | h
        · exact hc.dst j i y x d h hy hx hd' e
        · exact hc.dst i j x y d h hx hy e hd'
      rw [if_neg this]
      exact h1 j y d hy hj hd'
  · intro t ht
    rw [hρ, if_neg (ht i x hx ((hLi i).2 (.inl rfl)))]
    exact h2 t fun j y hy hj => ht j y hy ((hLi j).2 (.inr hj))
  · intro j p hj hc
    rw [hLi] at hj
    rcases hσ with ⟨e, hn⟩ | ⟨hci, v, e, hv⟩
    · rcases hj with rfl | hj
      · exact absurd hc (hn p)
      · rw [e]; exact h3 j p hj hc
    · have hjl : j < is.length := by
        rcases hj with rfl | hj
        · omega
        · have := (Array.getElem?_eq_some_iff.1 hj).1; rw [hi.size] at this; omega
      by_cases hpi : Pl i = p
      · subst hpi
        have := ch.uniq hjl (by omega) hc hci
        subst this
        rw [e, lk_upd, if_pos rfl, hv]
      · have hne : j ≠ i := by
          rintro rfl
          exact hpi (ch.chg1 hjl hc).1.symm
        rw [e, lk_upd, if_neg hpi]
        rcases hj with rfl | hj
        · exact absurd rfl hne
        · exact h3 j p hj hc
  · intro p hp
    have h5 := h4 p fun j hj => hp j ((hLi j).2 (.inr hj))
    rcases hσ with ⟨e, hn⟩ | ⟨hci, v, e, hv⟩
    · rw [e]; exact h5
    · have hne : Pl i ≠ p := by
        rintro rfl
        exact hp i ((hLi i).2 (.inl rfl)) hci
      rw [e, lk_upd, if_neg hne]; exact h5

theorem crawn_ok (hl : is.length = ops.size) (hc : Chk ops is bd anc) (ch : ChainC P is X Pl S) (htr : ∀ (i : Nat) (o : Oper), ops[i]? = some o → ∃ x c, is[i]? = some x ∧ trIns P N ops c o = some x)
    {K0 : Kr} {w0 : World} {df : List Deferred} {Q : Exit → Act → World → Prop} (hk : ∀ K1 s1 a1 w1, SRel N K1 s1 a1 w1 → Evo K0 (S 0).σ w0 K1 s1.σ w1 → a1.defers = df → (∀ t, lk s1.ρ t = lk (S ops.size).ρ t) → (∀ p, lk s1.σ p = lk (S ops.size).σ p) → Q .normal a1 w1) :
    ∀ (fuel : Nat) (L : Array Bool) (a : Act) (w : World), DInvC N ops is S K0 w0 df L a w → (List.range ops.size).countP (fun j => !L.getD j true) ≤ fuel → wpAny P .any ops Q fuel L a w := by
  have fin : ∀ (L : Array Bool) (a : Act) (w : World), DInvC N ops is S K0 w0 df L a w → Region.ready .any ops L = [] → Q .normal a w := by
    intro L a w hi hr
    have all : ∀ j, j < ops.size → L[j]? = some true := by
      intro j
      induction j using Nat.strongRecOn with
      | _ j ih =>
        intro hj
        have hjl : j < L.size := by rw [hi.size]; exact hj
        cases hb : L[j] with
        | true => simp [hjl, hb]
        | false =>
          exfalso
          have : j ∈ Region.ready .any ops L := by
            unfold Region.ready
            rw [List.mem_filter]
            refine ⟨by simpa using hj, ?_⟩
            have ho : ops[j]? = some ops[j] := by simp [hj]
            have hLj : L.getD j true = false := by simp [Array.getD_eq_getD_getElem?, hjl, hb]
            rw [hLj, ho]
            simp only [Bool.not_false, Bool.true_and, Option.map_some, Option.getD_some]
            rw [Array.all_eq_true_iff_forall_mem]
            intro e he
            by_cases hbe : Region.binds .any e = true
            · have h1 := hc.back j _ ho e he hbe
              have := ih e.on h1 (by omega)
              simp [Array.getD_eq_getD_getElem?, this]
            · simp [hbe]
          rw [hr] at this
          cases this
    obtain ⟨K, s, hs, hE, h1, h2, h3, h4⟩ := hi.st
    refine hk K s a w hs hE hi.defers ?_ ?_
    · intro t
      by_cases hw : ∃ (j : Nat) (y : AIns), is[j]? = some y ∧ y.dst = some t
      · obtain ⟨j, y, hy, hd⟩ := hw
        have hjl : j < is.length := (List.getElem?_eq_some_iff.1 hy).1
        rw [h1 j y t hy (all j (by omega)) hd]
        have := ch.lk_same t (ops.size - (j + 1)) (j + 1) (by omega) (fun k z hk1 _ hz e => hc.dst j k y z t (by omega) hy hz hd e)
        rw [show j + 1 + (ops.size - (j + 1)) = ops.size by omega] at this
        exact this.symm
      · rw [h2 t (fun j y hy _ e => hw ⟨j, y, hy, e⟩)]
        have := ch.lk_same t ops.size 0 (by omega) (fun k z _ _ hz e => hw ⟨k, z, hz, e⟩)
        simpa using this.symm
    · intro p
      by_cases hc : ∃ j, j < ops.size ∧ chg S j p
      · obtain ⟨j, hj, hcj⟩ := hc
        rw [h3 j p (all j hj) hcj]
        have := ch.keep (p := p) (ops.size - (j + 1)) (j + 1) (by omega) (ch.chg1 (by omega) hcj).2.2.2
        rw [show j + 1 + (ops.size - (j + 1)) = ops.size by omega] at this
        exact this.symm
      · have hno : ∀ j, j < ops.size → ¬ chg S j p := fun j hj h => hc ⟨j, hj, h⟩
        rw [h4 p fun j hj => by
          have := (Array.getElem?_eq_some_iff.1 hj).1
          exact hno j (by rw [hi.size] at this; exact this), ch.same ops.size (by omega) hno]
  intro fuel
  induction fuel with
  | zero =>
    intro L a w hi hcnt
    have hr : Region.ready .any ops L = [] := by
      unfold Region.ready
      rw [List.filter_eq_nil_iff]
      intro j hj
      have := List.countP_eq_zero.1 (Nat.le_zero.1 hcnt) j hj
      simp only [Bool.not_eq_true] at this
      rw [this]
      simp
    exact ⟨hr, fin L a w hi hr⟩
  | succ fuel ih =>
    intro L a w hi hcnt
    refine ⟨fun hr => fin L a w hi hr, ?_⟩
    intro i hir
    unfold Region.ready at hir
    rw [List.mem_filter] at hir
    obtain ⟨hir1, hir2⟩ := hir
    have hilt : i < ops.size := by simpa using hir1
    have hil : i < L.size := by rw [hi.size]; exact hilt
    have ho : ops[i]? = some ops[i] := by simp [hilt]
    simp only [Bool.and_eq_true, Bool.not_eq_true', ho, Option.map_some, Option.getD_some] at hir2
    have hLi : L[i]? = some false := by
      have := hir2.1
      simp only [Array.getD_eq_getD_getElem?, Array.getElem?_eq_getElem hil, Option.getD_some] at this
      simp [hil, this]
    have hready : ∀ o : Oper, ops[i]? = some o → ∀ e ∈ o.after, bindsAny e = true → L[e.on]? = some true := by
      intro o ho' e he hb
      rw [ho] at ho'; injection ho' with ho'; subst ho'
      have := (Array.all_eq_true_iff_forall_mem.1 hir2.2) e he
      have hb' : Region.binds .any e = true := hb
      rw [hb'] at this
      simp only [Bool.not_true, Bool.false_or] at this
      cases hL2 : L[e.on]? with
      | none => simp [Array.getD_eq_getD_getElem?, hL2] at this
      | some b => simp [Array.getD_eq_getD_getElem?, hL2] at this; rw [this]
    obtain ⟨x, c, hx, hxtr⟩ := htr i _ ho
    obtain ⟨K, s, hs, hE, h1, h2, h3, h4⟩ := hi.st
    have hturn := at_turnC hl hc ch hi hx hLi hready h1 h2
    obtain ⟨w1, w2, w3, w4, w5, w6, w7⟩ := wanted_of hxtr hs
    have hstep := ch.step i x hx
    have hcnt' : (List.range ops.size).countP (fun j => !(L.setIfInBounds i true).getD j true) ≤ fuel := by
      have hlt := countP_lt (p := fun j => !L.getD j true) (q := fun j => !(L.setIfInBounds i true).getD j true) (l := List.range ops.size) (fun j hj => by
        by_cases e : i = j
        · subst e; simp [Array.getD_eq_getD_getElem?, hil] at hj
        · simpa [Array.getD_eq_getD_getElem?, Array.getElem?_setIfInBounds_ne e] using hj) (i := i) hir1 (by simpa using hir2.1) (by simp [Array.getD_eq_getD_getElem?, hil])
      omega
    have hev : ∀ y ∈ opds x.op, ev s.ρ y = ev (S i).ρ y := by
      intro y hy
      cases y with
      | t n => exact hturn n (reads_mem hy)
      | c v => rfl
    -- the operation is carried out
    have hXi : ∀ p ∈ X, lk s.σ p = lk (S i).σ p := by
      intro p hp
      have hno : ∀ j, j < ops.size → ¬ chg S j p := fun j hj h => (ch.chg1 (by omega) h).2.1 hp
      rw [h4 p fun j hj => by
        have := (Array.getElem?_eq_some_iff.1 hj).1
        exact hno j (by rw [hi.size] at this; exact this), ch.same i (by omega) fun j hj => hno j (by omega)]
    have go : DOneC P X Pl i x (S i) (S (i + 1)) →
        ops[i].wp P a w (wpAny P .any ops Q fuel (L.setIfInBounds i true)) Q := by
      intro h
      obtain ⟨R, hst, hR⟩ : ∃ R, Step P s x.op R ∧ ∀ r' σ', R r' σ' → (∀ t, x.dst = some t → lk (S (i + 1)).ρ t = some r') ∧ ((σ' = s.σ ∧ ∀ p, ¬ chg S i p) ∨ (chg S i (Pl i) ∧ ∃ v, σ' = upd s.σ (Pl i) v ∧ lk (S (i + 1)).σ (Pl i) = some v)) := by
        rcases h with ⟨r, hf | hf, e⟩ | ⟨r, n, it, hX, hn, hf, e⟩
        · obtain ⟨R, h5, h6⟩ := hf.step s hev
          refine ⟨R, h5, fun r' σ' hr => ?_⟩
          obtain ⟨rfl, rfl⟩ := h6 r' σ' hr
          exact ⟨fun t ht => by rw [e, lk_put, if_pos ht], .inl ⟨rfl, fun p hc => hc (by rw [e, St.put_σ])⟩⟩
        · have h5 := hf s.σ hXi
          refine ⟨_, .op x.op r s.σ (by rw [aop_congr hev]; exact h5), fun r' σ' hr => ?_⟩
          obtain ⟨rfl, rfl⟩ := hr
          exact ⟨fun t ht => by rw [e, lk_put, if_pos ht], .inl ⟨rfl, fun p hc => hc (by rw [e, St.put_σ])⟩⟩
        · have hv : lk (S (i + 1)).σ (Pl i) = some (n, it) := by rw [e, St.put_σ, lk_upd, if_pos rfl]
          have hci : chg S i (Pl i) := by unfold chg; rw [hv, hn]; simp
          have hfree : lk s.σ (Pl i) = none := by
            rw [h4 (Pl i) fun j hj hc => by
              have hjl : j < is.length := by have := (Array.getElem?_eq_some_iff.1 hj).1; rw [hi.size] at this; omega
              have := ch.uniq hjl (by omega) hc hci
              subst this
              rw [hLi] at hj; cases hj]
            exact ch.none0 (by omega) hn 0 (by omega)
          refine ⟨_, .opK (Pl i) x.op r _ (by rw [aop_congr (by rw [opds_setK]; exact hev)]; exact hf s.σ hfree), fun r' σ' hr => ?_⟩
          obtain ⟨rfl, rfl⟩ := hr
          exact ⟨fun t ht => by rw [e, lk_put, if_pos ht], .inr ⟨hci, _, rfl, hv⟩⟩
      refine Oper.wp_mono ?_ (hst.wp (N := N) w3 w4 K a w Q hs)
      rintro a1 w1' ⟨r', σ', K', u, rfl, hr', g1, g2, g3⟩
      obtain ⟨q1, q2⟩ := hR r' σ' hr'
      have hs1 := TRel.put hs g3.le g2 g1 w2
      refine ih _ _ _ (hi.next hl hc ch hx hLi hready hE h1 h2 h3 h4 hs1 (by rw [St.put_σ]; exact g3) (put_defers _ _ _) ?_ ?_) hcnt'
      · intro t
        rw [lk_put, w1]
        by_cases e : ops[i].dst = some t
        · rw [if_pos e, if_pos e, q1 t (w1.trans e)]
        · rw [if_neg e, if_neg e]
      · rw [St.put_σ]; exact q2
    show wpOp P ops Q i _ a w
    unfold wpOp
    rw [ho]
    simp only
    unfold DStepC at hstep
    cases hg : x.guard with
    | none =>
      rw [hg] at hstep
      rw [w5 hg, if_pos rfl]
      exact .inl (go hstep)
    | some tw =>
      obtain ⟨t, want⟩ := tw
      rw [hg] at hstep
      -- where it is left out
      have skip : Region.wanted ops[i] (yielded ops a.tmps) = false → S (i + 1) = (S i).put x.dst .dead → (if Region.wanted ops[i] (yielded ops a.tmps) then ops[i].wp P a w (wpAny P .any ops Q fuel (L.setIfInBounds i true)) Q ∨ (ops[i].asks P a w ∧ LetsOut Q) else wpAny P .any ops Q fuel (L.setIfInBounds i true) (a.put ops[i].dst undef) w) := by
        intro hw e
        rw [hw, if_neg (by simp)]
        have hs1 := TRel.put hs (Kr.Le.refl _ _) hs.slots TRel.dead w2
        refine ih _ _ _ (hi.next hl hc ch hx hLi hready hE h1 h2 h3 h4 hs1 (by rw [St.put_σ]; exact Evo.refl _ _ _) (put_defers _ _ _) ?_ ?_) hcnt'
        · intro t'
          rw [lk_put, w1]
          by_cases e' : ops[i].dst = some t'
          · rw [if_pos e', if_pos e', e, lk_put, if_pos (w1.trans e')]
          · rw [if_neg e', if_neg e']
        · exact .inl ⟨by rw [St.put_σ], fun p hc => hc (by rw [e, St.put_σ])⟩
      rcases hstep with ⟨hb, e⟩ | ⟨b, hb, h5, h6⟩
      · have hbs : lk s.ρ t = some .dead := by rw [hturn t (guard_mem hg)]; exact hb
        exact skip (w7 t want hg hbs) e
      have hbs : lk s.ρ t = some (.iv (.bool b)) := by rw [hturn t (guard_mem hg)]; exact hb
      have hwb := w6 t want b hg hbs
      by_cases hbw : b = want
      · rw [hwb, if_pos (by simpa using hbw)]
        exact .inl (go (h5 hbw))
      · exact skip (by rw [hwb]; simpa using hbw) (h6 hbw)
end
theorem DStepC.congr {P : Program} {X : List Nat} {Pl Pl' : Nat → Nat} {k : Nat} {i : AIns} {s s' : St} (e : Pl' k = Pl k) (h : DStepC P X Pl k i s s') : DStepC P X Pl' k i s s' := by
  unfold DStepC DOneC at h ⊢
  rw [e]; exact h
end Go.Proofs.YtdlgenppdgkacaaGreatDoor.Ag
