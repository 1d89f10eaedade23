/- A contract over places, without the callee's own places: they are dropped at its end. -/
import Derived.Test.YtfmeedphpcjkmaaAgX
set_option linter.unusedVariables false
set_option linter.unusedSimpArgs false
namespace Go.Proofs.Ytfmeedphpcjkmaa.Ag
/-- A value that refers to none of some places. -/
def avT (d : Nat → Bool) : TV → Bool
  | .iv _ => true
  | .dead => true
  | .loc k _ _ => !d k
  | .lst k _ => !d k
  | .el k _ _ _ _ => !d k
  | .mp k _ => !d k
  | .itr k _ => !d k
  | .tup [] => true
  | _ => false
def avI (d : Nat → Bool) : Item → Bool
  | .gone => true
  | .froz _ => true
  | .box cs => cs.all (avT d)
  | .list _ _ _ => true
  | .tl _ _ cs => cs.all (avT d)
  | .map _ es => es.all fun e => avT d e.2
  | .siter _ _ => true
  | .pre _ _ => true
def dropK (d : Nat → Bool) (K : Kr) : Kr := { K with V := fun k => if d k then 0 else K.V k }
theorem TRel.av {d : Nat → Bool} {K : Kr} {w : World} {t : TV} {v : Value} (h : TRel K w t v) (ha : avT d t = true) : TRel (dropK d K) w t v := by
  have hV : ∀ {k n : Nat}, (!d k) = true → n < K.V k → n < (dropK d K).V k := by
    intro k n h1 h2
    simp only [Bool.not_eq_true'] at h1
    simp only [dropK, h1, Bool.false_eq_true, if_false]; exact h2
  cases h with
  | iv x v h => exact .iv x v h
  | loc k n off b h hA => exact .loc k n off b (hV ha h) hA
  | lst k n h => exact .lst (K := dropK d K) k n (hV ha h)
  | el k n sz i off b len cap h hA => exact .el k n sz i off b len cap (hV ha h) hA
  | mp k n h => exact .mp (K := dropK d K) k n (hV ha h)
  | itr k n h => exact .itr (K := dropK d K) k n (hV ha h)
  | dead => exact .dead
  | ifb c t v h h' => cases ha
  | agg cs vs hn ho hr => cases ha
  | tup xs vs hn hr =>
    cases xs with
    | nil => exact .tup [] vs hn fun q c v hc _ => by simp at hc
    | cons x xs => cases ha
  | fn f fs cs vf vc hf hc hrf hrc => cases ha
theorem IRel.av {d : Nat → Bool} {K : Kr} {w : World} {it : Item} {v : Value} (h : IRel K w it v) (ha : avI d it = true) : IRel (dropK d K) w it v := by
  cases it with
  | gone => trivial
  | froz xs => exact h
  | box cs =>
    obtain ⟨b, e, vs, h1, h2, h3, h4⟩ := h
    exact ⟨b, e, vs, h1, h2, h3, fun q c u hc hu => ⟨(h4 q c u hc hu).1.av (List.all_eq_true.1 ha c (List.mem_of_getElem? hc)), (h4 q c u hc hu).2⟩⟩
  | list e sz xs => exact h
  | tl e sz cs =>
    obtain ⟨m, cvs, h0, h1, h2, h3⟩ := h
    exact ⟨m, cvs, h0, h1, h2, fun q c u hc hu => ⟨(h3 q c u hc hu).1.av (List.all_eq_true.1 ha c (List.mem_of_getElem? hc)), (h3 q c u hc hu).2⟩⟩
  | map kd es =>
    obtain ⟨b, ms, clock, h1, h2, h3, h4⟩ := h
    exact ⟨b, ms, clock, h1, h2, ⟨h3.1, fun q x m hx hm => ⟨(h3.2 q x m hx hm).1, (h3.2 q x m hx hm).2.av (List.all_eq_true.1 ha x (List.mem_of_getElem? hx))⟩⟩, h4⟩
  | siter s pos => exact h
  | pre xs ys => exact h
theorem GC.drop {P : Program} {f : FuncId} {args : List TV} {σ : Slots} {Q : TV → Slots → Prop} (d : Nat → Bool) (r0 : TV) (σ2 : Slots) (hr0 : avT d r0 = true) (hd : ∀ k, d k = true → lk σ k = none)
    (hq : ∀ r σ', Q r σ' → r = r0 ∧ ∀ k, lk σ2 k = if d k then none else lk σ' k) (hav : ∀ k n it, lk σ2 k = some (n, it) → avI d it = true) (h : GC P f args σ Q) : GC P f args σ (fun r s => r = r0 ∧ s = σ2) := by
  intro K w vs hs hsz hr
  refine (h K w vs hs hsz hr).mono ?_
  rintro e w' ⟨v, rfl, K', r, σ', hQ, hrel, hsl, hev⟩
  obtain ⟨rfl, hlk⟩ := hq r σ' hQ
  have get : ∀ {k n it}, lk σ2 k = some (n, it) → d k = false ∧ lk σ' k = some (n, it) := by
    intro k n it hk
    have := hlk k
    rw [hk] at this
    cases hdk : d k with
    | true => rw [hdk] at this; simp at this
    | false => rw [hdk] at this; simp at this; exact ⟨rfl, this.symm⟩
  have own : ∀ b, Owned (dropK d K') σ2 b → Owned K' σ' b := by
    rintro b ⟨k, n, it, hk, ho⟩
    exact ⟨k, n, it, (get hk).2, ho⟩
  refine ⟨v, rfl, dropK d K', r, σ2, ⟨rfl, rfl⟩, ?_, ⟨?_, ?_, ?_, ?_, ?_⟩, ⟨?_, hev.os, hev.tape, hev.output, hev.size, hev.rest, ?_, ?_⟩⟩
  · exact hrel.av hr0
  · intro k n it hk
    obtain ⟨h1, h2⟩ := get hk
    obtain ⟨h3, h4⟩ := hsl.rel k n it h2
    exact ⟨by simp only [dropK, h1, Bool.false_eq_true, if_false]; exact h3, h4.av (hav k n it hk)⟩
  · intro k hk
    have := hlk k
    rw [hk] at this
    simp only [dropK]
    split
    · rfl
    · rename_i hdk
      rw [if_neg hdk] at this
      exact hsl.free k this.symm
  · intro k k' n n' it it' b h1 h2 h3 h4
    exact hsl.apart k k' n n' it it' b (get h1).2 (get h2).2 h3 h4
  · intro b hb
    exact hsl.imm b (own b hb)
  · exact hsl.old
  · refine ⟨hev.le.1, fun k => ?_⟩
    have hle := hev.le.2 k
    simp only [dropK]
    split
    · rename_i hdk
      have := hs.free k (hd k hdk)
      exact ⟨by omega, fun n hn => by omega⟩
    · exact hle
  · exact hev.newI
  · exact fun b hb => hev.newO b (own b hb)
end Go.Proofs.Ytfmeedphpcjkmaa.Ag
set_option linter.unusedVariables false
set_option linter.unusedSimpArgs false
namespace Go.Proofs.Ytfmeedphpcjkmaa.Ag
/-- A value without the places of 'd', but for lists of place 'p0', which is called 'p' now. -/
inductive RenT (d : Nat → Bool) (p0 p : Nat) : TV → TV → Prop
  | iv (x : IV) : RenT d p0 p (.iv x) (.iv x)
  | same (k n : Nat) (h : d k = false) : RenT d p0 p (.lst k n) (.lst k n)
  | ren (n : Nat) : RenT d p0 p (.lst p0 n) (.lst p n)
  | agg (cs cs' : List TV) (hl : cs'.length = cs.length) (h : ∀ (q : Nat) (c c' : TV), cs[q]? = some c → cs'[q]? = some c' → RenT d p0 p c c') : RenT d p0 p (.agg cs) (.agg cs')
  | tup (cs cs' : List TV) (hl : cs'.length = cs.length) (h : ∀ (q : Nat) (c c' : TV), cs[q]? = some c → cs'[q]? = some c' → RenT d p0 p c c') : RenT d p0 p (.tup cs) (.tup cs')
def renK (d : Nat → Bool) (p0 p : Nat) (K : Kr) : Kr := { I := K.I, A := fun k n => if k = p then K.A p0 n else K.A k n, V := fun k => if d k then 0 else if k = p then K.V p0 else K.V k }
theorem TRel.ren {d : Nat → Bool} {p0 p : Nat} {K : Kr} {w : World} (hd0 : d p0 = true) (hdp : d p = false) (hp : K.V p = 0) {t t' : TV} (hr : RenT d p0 p t t') : ∀ {v : Value}, TRel K w t v → TRel (renK d p0 p K) w t' v := by
  induction hr with
  | iv x =>
    intro v h
    cases h with
    | iv _ _ h => exact .iv _ _ h
  | same k n h =>
    intro v hv
    cases hv with
    | lst _ _ hn =>
      have hne : k ≠ p := by rintro rfl; omega
      have hA : (renK d p0 p K).A k n = K.A k n := by simp [renK, hne]
      rw [← hA]
      exact .lst k n (by simp [renK, h, hne]; exact hn)
  | ren n =>
    intro v hv
    cases hv with
    | lst _ _ hn =>
      have hA : (renK d p0 p K).A p n = K.A p0 n := by simp [renK]
      rw [← hA]
      exact .lst p n (by simp [renK, hdp]; exact hn)
  | agg cs cs' hl h ih =>
    intro v hv
    cases hv with
    | agg _ vs hn ho hr =>
      refine .agg cs' vs (by omega) ho fun q c' u hc' hu => ?_
      have hlt : q < cs.length := by have := (List.getElem?_eq_some_iff.1 hc').1; omega
      exact ih q cs[q] c' (by simp [hlt]) hc' (hr q cs[q] u (by simp [hlt]) hu)
  | tup cs cs' hl h ih =>
    intro v hv
    cases hv with
    | tup _ vs hn hr =>
      refine .tup cs' vs (by omega) fun q c' u hc' hu => ?_
      have hlt : q < cs.length := by have := (List.getElem?_eq_some_iff.1 hc').1; omega
      exact ih q cs[q] c' (by simp [hlt]) hc' (hr q cs[q] u (by simp [hlt]) hu)
theorem TRel.avR {d : Nat → Bool} {p0 p : Nat} {K : Kr} {w : World} (hp : K.V p = 0) {t : TV} {v : Value} (h : TRel K w t v) (ha : avT d t = true) : TRel (renK d p0 p K) w t v := by
  have hV : ∀ {k n : Nat}, (!d k) = true → n < K.V k → n < (renK d p0 p K).V k ∧ (renK d p0 p K).A k n = K.A k n := by
    intro k n h1 h2
    simp only [Bool.not_eq_true'] at h1
    have hne : k ≠ p := by rintro rfl; omega
    simp only [renK, h1, Bool.false_eq_true, if_false, hne]; exact ⟨h2, trivial⟩
  cases h with
  | iv x v h => exact .iv x v h
  | loc k n off b h hA => exact .loc k n off b (hV ha h).1 ((hV ha h).2.trans hA)
  | lst k n h => have := (hV ha h).2; rw [← this]; exact .lst k n (hV ha h).1
  | el k n sz i off b len cap h hA => exact .el k n sz i off b len cap (hV ha h).1 ((hV ha h).2.trans hA)
  | mp k n h => have := (hV ha h).2; rw [← this]; exact .mp k n (hV ha h).1
  | itr k n h => have := (hV ha h).2; rw [← this]; exact .itr k n (hV ha h).1
  | dead => exact .dead
  | ifb c t v h h' => cases ha
  | agg cs vs hn ho hr => cases ha
  | tup xs vs hn hr =>
    cases xs with
    | nil => exact .tup [] vs hn fun q c v hc _ => by simp at hc
    | cons x xs => cases ha
  | fn f fs cs vf vc hf hc hrf hrc => cases ha
theorem IRel.avR {d : Nat → Bool} {p0 p : Nat} {K : Kr} {w : World} (hp : K.V p = 0) {it : Item} {v : Value} (h : IRel K w it v) (ha : avI d it = true) : IRel (renK d p0 p K) w it v := by
  cases it with
  | gone => trivial
  | froz xs => exact h
  | box cs =>
    obtain ⟨b, e, vs, h1, h2, h3, h4⟩ := h
    exact ⟨b, e, vs, h1, h2, h3, fun q c u hc hu => ⟨(h4 q c u hc hu).1.avR hp (List.all_eq_true.1 ha c (List.mem_of_getElem? hc)), (h4 q c u hc hu).2⟩⟩
  | list e sz xs => exact h
  | tl e sz cs =>
    obtain ⟨m, cvs, h0, h1, h2, h3⟩ := h
    exact ⟨m, cvs, h0, h1, h2, fun q c u hc hu => ⟨(h3 q c u hc hu).1.avR hp (List.all_eq_true.1 ha c (List.mem_of_getElem? hc)), (h3 q c u hc hu).2⟩⟩
  | map kd es =>
    obtain ⟨b, ms, clock, h1, h2, h3, h4⟩ := h
    exact ⟨b, ms, clock, h1, h2, ⟨h3.1, fun q x m hx hm => ⟨(h3.2 q x m hx hm).1, (h3.2 q x m hx hm).2.avR hp (List.all_eq_true.1 ha x (List.mem_of_getElem? hx))⟩⟩, h4⟩
  | siter s pos => exact h
  | pre xs ys => exact h
theorem GC.ren {P : Program} {f : FuncId} {args : List TV} {σ : Slots} {Q Q2 : TV → Slots → Prop} (d : Nat → Bool) (p0 p : Nat) (hd0 : d p0 = true) (hdp : d p = false) (hd : ∀ k, d k = true → lk σ k = none) (hp : lk σ p = none)
    (hq : ∀ r σ', Q r σ' → ∃ r2 σ2, Q2 r2 σ2 ∧ RenT d p0 p r r2 ∧ lk σ' p = none ∧ (∀ k, lk σ2 k = if d k then none else if k = p then lk σ' p0 else lk σ' k) ∧ ∀ k n it, lk σ2 k = some (n, it) → avI d it = true)
    (h : GC P f args σ Q) : GC P f args σ Q2 := by
  intro K w vs hs hsz hr
  refine (h K w vs hs hsz hr).mono ?_
  rintro e w' ⟨v, rfl, K', r, σ', hQ, h1, h2, h3⟩
  obtain ⟨r2, σ2, q1, q2, q3, q4, q5⟩ := hq r σ' hQ
  have hpV : K'.V p = 0 := h2.free p q3
  have bk : ∀ k n it, lk σ2 k = some (n, it) → d k = false ∧ lk σ' (if k = p then p0 else k) = some (n, it) ∧ (renK d p0 p K').A k n = K'.A (if k = p then p0 else k) n ∧ (renK d p0 p K').V k = K'.V (if k = p then p0 else k) := by
    intro k n it hl
    rw [q4 k] at hl
    cases hk : d k with
    | true => simp [hk] at hl
    | false =>
      simp only [hk, Bool.false_eq_true, if_false] at hl
      refine ⟨rfl, ?_, ?_, ?_⟩
      · by_cases e : k = p
        · simp only [e, if_true] at hl ⊢; exact hl
        · simp only [e, if_false] at hl ⊢; exact hl
      · by_cases e : k = p
        · simp [renK, e]
        · simp [renK, e]
      · by_cases e : k = p
        · subst e; simp [renK, hk]
        · simp [renK, hk, e]
  have ow : ∀ b, Owned (renK d p0 p K') σ2 b → Owned K' σ' b := by
    rintro b ⟨k, n, it, hl, ho⟩
    obtain ⟨b1, b2, b3, b4⟩ := bk k n it hl
    exact ⟨_, n, it, b2, by rw [← b3]; exact ho⟩
  refine ⟨v, rfl, renK d p0 p K', r2, σ2, q1, h1.ren hd0 hdp hpV q2, ⟨?_, ?_, ?_, ?_, h2.old⟩, ⟨⟨h3.le.1, ?_⟩, h3.os, h3.tape, h3.output, h3.size, h3.rest, h3.newI, fun b hb => h3.newO b (ow b hb)⟩⟩
  · intro k n it hl
    obtain ⟨b1, b2, b3, b4⟩ := bk k n it hl
    refine ⟨by rw [b4]; exact (h2.rel _ n it b2).1, ?_⟩
    rw [b3]
    exact (h2.rel _ n it b2).2.avR hpV (q5 k n it hl)
  · intro k hl
    rw [q4 k] at hl
    cases hk : d k with
    | true => simp [renK, hk]
    | false =>
      simp only [hk, Bool.false_eq_true, if_false] at hl
      by_cases e : k = p
      · subst e; simp only [if_true] at hl; simp [renK, hk]; exact h2.free p0 hl
      · simp only [e, if_false] at hl; simp [renK, hk, e]; exact h2.free k hl
  · intro k k' n n' it it' b hl hl' ho ho'
    obtain ⟨a1, a2, a3, a4⟩ := bk k n it hl
    obtain ⟨b1, b2, b3, b4⟩ := bk k' n' it' hl'
    have := h2.apart _ _ n n' it it' b a2 b2 (by rw [← a3]; exact ho) (by rw [← b3]; exact ho')
    by_cases e : k = p <;> by_cases e' : k' = p <;> simp only [e, e', if_true, if_false] at this ⊢
    · subst this; rw [hd0] at b1; cases b1
    · subst this; rw [hd0] at a1; cases a1
    · exact this
  · intro b hb
    exact h2.imm b (ow b hb)
  · intro k
    by_cases hk : d k = true
    · have h0 := hs.free k (hd k hk)
      exact ⟨by omega, fun n hn => by omega⟩
    · by_cases e : k = p
      · subst e
        have h0 := hs.free k hp
        exact ⟨by omega, fun n hn => by omega⟩
      · have hk' : d k = false := by simpa using hk
        have := h3.le.2 k
        simp only [renK, hk', Bool.false_eq_true, if_false, e]
        exact this
end Go.Proofs.Ytfmeedphpcjkmaa.Ag
set_option linter.unusedVariables false
set_option linter.unusedSimpArgs false
namespace Go.Proofs.Ytfmeedphpcjkmaa.Ag
def vcSlcF2 (rest : St → Prop) (s : St) (d : Option Nat) (sz : Nat) (l h m : Option Int) : Option (IV × Slots) → Prop
  | some (.slice xs, []) => oneSize sz xs = true ∧ 0 ≤ l.getD 0 ∧ l.getD 0 ≤ h.getD xs.length ∧ h.getD xs.length ≤ m.getD xs.length ∧ m.getD xs.length ≤ xs.length ∧ rest (s.put d (.iv (.slice (cut xs (l.getD 0).toNat (h.getD xs.length).toNat))))
  | _ => False
def vcSlcF (rest : St → Prop) (s : St) (d : Option Nat) (sz : Nat) : Option TV → Option (Option Int) → Option (Option Int) → Option (Option Int) → Prop
  | some v, some l, some h, some m => vcSlcF2 rest s d sz l h m (shut v [])
  | _, _, _, _ => False
section
variable (E : Env) (rest : St → Prop) (s : St) (d : Option Nat)
theorem vcFree_slc (z : Nat) (x : AOpd) (l h m : Option AOpd) : vcFree E rest s d (AOp.slc z x l h m) = vcSlcF rest s d z (ev s.ρ x) (evOpt s.ρ l) (evOpt s.ρ h) (evOpt s.ρ m) := by
  show vcFr rest s d (aop s.ρ [] (AOp.slc z x l h m)) = _
  simp only [aop]
  cases ev s.ρ x with
  | none => rfl
  | some v =>
    cases evOpt s.ρ l with
    | none => rfl
    | some l =>
      cases evOpt s.ρ h with
      | none => rfl
      | some h =>
        cases evOpt s.ρ m with
        | none => rfl
        | some m =>
          simp only [vcSlcF]
          rcases shut v [] with _ | ⟨y, σ'⟩
          · rfl
          · cases y
            case slice xs =>
              by_cases ho : oneSize z xs = true
              · simp only [ho, if_true, cutAt]
                by_cases hc : 0 ≤ l.getD 0 ∧ l.getD 0 ≤ h.getD xs.length ∧ h.getD xs.length ≤ m.getD xs.length ∧ m.getD xs.length ≤ xs.length
                · simp only [if_pos hc]
                  cases σ' with
                  | nil => simp only [vcFr, vcSlcF2, ho, hc, true_and]
                  | cons a b => rfl
                · simp only [if_neg hc, vcFr]
                  cases σ' with
                  | nil =>
                    refine propext ⟨fun h => h.elim, fun hh => hc ?_⟩
                    exact ⟨hh.2.1, hh.2.2.1, hh.2.2.2.1, hh.2.2.2.2.1⟩
                  | cons a b => rfl
              · simp only [ho, if_false, vcFr]
                cases σ' with
                | nil => exact propext ⟨fun h => h.elim, fun hh => ho hh.1⟩
                | cons a b => rfl
            all_goals rfl
theorem vcI_slcP : ∀ k z x h, vcI E rest s d (AOp.slcP k z x h) = vcT rest s d (aop s.ρ s.σ (AOp.slcP k z x h)) := fun _ _ _ _ => rfl
theorem vcIg_slcP : ∀ k z x h, vcIg E rest s d (AOp.slcP k z x h) = vcT rest s d (aop (opnR s.ρ (opds (AOp.slcP k z x h))) s.σ (AOp.slcP k z x h)) := fun _ _ _ _ => rfl
theorem vcI_slcQ : ∀ z x h, vcI E rest s d (AOp.slcQ z x h) = vcT rest s d (aop s.ρ s.σ (AOp.slcQ z x h)) := fun _ _ _ => rfl
theorem vcIg_slcQ : ∀ z x h, vcIg E rest s d (AOp.slcQ z x h) = vcT rest s d (aop (opnR s.ρ (opds (AOp.slcQ z x h))) s.σ (AOp.slcQ z x h)) := fun _ _ _ => rfl
theorem vcSlcF_some (sz : Nat) (v : TV) (l h m : Option Int) : vcSlcF rest s d sz (some v) (some l) (some h) (some m) = vcSlcF2 rest s d sz l h m (shut v []) := rfl
theorem vcSlcF2_some (sz : Nat) (l h m : Option Int) (xs : List IV) : vcSlcF2 rest s d sz l h m (some (.slice xs, [])) = (oneSize sz xs = true ∧ 0 ≤ l.getD 0 ∧ l.getD 0 ≤ h.getD xs.length ∧ h.getD xs.length ≤ m.getD xs.length ∧ m.getD xs.length ≤ xs.length ∧ rest (s.put d (.iv (.slice (cut xs (l.getD 0).toNat (h.getD xs.length).toNat))))) := rfl
end
attribute [go_sem] vcI_slcP vcIg_slcP vcI_slcQ vcIg_slcQ vcFree_slc vcSlcF_some vcSlcF2_some
end Go.Proofs.Ytfmeedphpcjkmaa.Ag
