/- A contract over places, without the callee's own places: they are dropped at its end. -/
import Derived.Test.YtmdkcapbahjipaaDoorAgX
set_option linter.unusedVariables false
set_option linter.unusedSimpArgs false
namespace Go.Proofs.YtmdkcapbahjipaaDoor.Ag
def avT (d : Nat → Bool) : TV → Bool
  | .iv _ => true
  | .dead => true
  | .loc k _ _ => !d k
  | .lst k _ => !d k
  | .el k _ _ _ _ => !d k
  | .mp k _ => !d k
  | .itr k _ => !d k
  | .tup [] => true
  | _ => false
def avI (d : Nat → Bool) : Item → Bool
  | .gone => true
  | .froz _ => true
  | .box cs => cs.all (avT d)
  | .list _ _ _ => true
  | .tl _ _ cs => cs.all (avT d)
  | .map _ es => es.all fun e => avT d e.2
  | .siter _ _ => true
def dropK (d : Nat → Bool) (K : Kr) : Kr := { K with V := fun k => if d k then 0 else K.V k }
theorem TRel.av {d : Nat → Bool} {K : Kr} {w : World} {t : TV} {v : Value} (h : TRel K w t v) (ha : avT d t = true) : TRel (dropK d K) w t v := by
  have hV : ∀ {k n : Nat}, (!d k) = true → n < K.V k → n < (dropK d K).V k := by
    intro k n h1 h2
    simp only [Bool.not_eq_true'] at h1
    simp only [dropK, h1, Bool.false_eq_true, if_false]; exact h2
  cases h with
  | iv x v h => exact .iv x v h
  | loc k n off b h hA => exact .loc k n off b (hV ha h) hA
  | lst k n h => exact .lst (K := dropK d K) k n (hV ha h)
  | el k n sz i off b len cap h hA => exact .el k n sz i off b len cap (hV ha h) hA
  | mp k n h => exact .mp (K := dropK d K) k n (hV ha h)
  | itr k n h => exact .itr (K := dropK d K) k n (hV ha h)
  | dead => exact .dead
  | ifb c t v h h' => cases ha
  | agg cs vs hn ho hr => cases ha
  | tup xs vs hn hr =>
    cases xs with
    | nil => exact .tup [] vs hn fun q c v hc _ => by simp at hc
    | cons x xs => cases ha
  | fn f fs cs vf vc hf hc hrf hrc => cases ha
theorem IRel.av {d : Nat → Bool} {K : Kr} {w : World} {it : Item} {v : Value} (h : IRel K w it v) (ha : avI d it = true) : IRel (dropK d K) w it v := by
  cases it with
  | gone => trivial
  | froz xs => exact h
  | box cs =>
    obtain ⟨b, e, vs, h1, h2, h3, h4⟩ := h
    exact ⟨b, e, vs, h1, h2, h3, fun q c u hc hu => ⟨(h4 q c u hc hu).1.av (List.all_eq_true.1 ha c (List.mem_of_getElem? hc)), (h4 q c u hc hu).2⟩⟩
  | list e sz xs => exact h
  | tl e sz cs =>
    obtain ⟨m, cvs, h0, h1, h2, h3⟩ := h
    exact ⟨m, cvs, h0, h1, h2, fun q c u hc hu => ⟨(h3 q c u hc hu).1.av (List.all_eq_true.1 ha c (List.mem_of_getElem? hc)), (h3 q c u hc hu).2⟩⟩
  | map kd es =>
    obtain ⟨b, ms, clock, h1, h2, h3, h4⟩ := h
    exact ⟨b, ms, clock, h1, h2, ⟨h3.1, fun q x m hx hm => ⟨(h3.2 q x m hx hm).1, (h3.2 q x m hx hm).2.av (List.all_eq_true.1 ha x (List.mem_of_getElem? hx))⟩⟩, h4⟩
  | siter s pos => exact h
theorem GC.drop {P : Program} {f : FuncId} {args : List TV} {σ : Slots} {Q : TV → Slots → Prop} (d : Nat → Bool) (r0 : TV) (σ2 : Slots) (hr0 : avT d r0 = true) (hd : ∀ k, d k = true → lk σ k = none)
    (hq : ∀ r σ', Q r σ' → r = r0 ∧ ∀ k, lk σ2 k = if d k then none else lk σ' k) (hav : ∀ k n it, lk σ2 k = some (n, it) → avI d it = true) (h : GC P f args σ Q) : GC P f args σ (fun r s => r = r0 ∧ s = σ2) := by
  intro K w vs hs hsz hr
  refine (h K w vs hs hsz hr).mono ?_
  rintro e w' ⟨v, rfl, K', r, σ', hQ, hrel, hsl, hev⟩
  obtain ⟨rfl, hlk⟩ := hq r σ' hQ
  have get : ∀ {k n it}, lk σ2 k = some (n, it) → d k = false ∧ lk σ' k = some (n, it) := by
    intro k n it hk
    have := hlk k
    rw [hk] at this
    cases hdk : d k with
    | true => rw [hdk] at this; simp at this
    | false => rw [hdk] at this; simp at this; exact ⟨rfl, this.symm⟩
  have own : ∀ b, Owned (dropK d K') σ2 b → Owned K' σ' b := by
    rintro b ⟨k, n, it, hk, ho⟩
    exact ⟨k, n, it, (get hk).2, ho⟩
  refine ⟨v, rfl, dropK d K', r, σ2, ⟨rfl, rfl⟩, ?_, ⟨?_, ?_, ?_, ?_, ?_⟩, ⟨?_, hev.os, hev.tape, hev.output, hev.size, hev.rest, ?_, ?_⟩⟩
  · exact hrel.av hr0
  · intro k n it hk
    obtain ⟨h1, h2⟩ := get hk
    obtain ⟨h3, h4⟩ := hsl.rel k n it h2
    exact ⟨by simp only [dropK, h1, Bool.false_eq_true, if_false]; exact h3, h4.av (hav k n it hk)⟩
  · intro k hk
    have := hlk k
    rw [hk] at this
    simp only [dropK]
    split
    · rfl
    · rename_i hdk
      rw [if_neg hdk] at this
      exact hsl.free k this.symm
  · intro k k' n n' it it' b h1 h2 h3 h4
    exact hsl.apart k k' n n' it it' b (get h1).2 (get h2).2 h3 h4
  · intro b hb
    exact hsl.imm b (own b hb)
  · exact hsl.old
  · refine ⟨hev.le.1, fun k => ?_⟩
    have hle := hev.le.2 k
    simp only [dropK]
    split
    · rename_i hdk
      have := hs.free k (hd k hdk)
      exact ⟨by omega, fun n hn => by omega⟩
    · exact hle
  · exact hev.newI
  · exact fun b hb => hev.newO b (own b hb)
end Go.Proofs.YtmdkcapbahjipaaDoor.Ag
