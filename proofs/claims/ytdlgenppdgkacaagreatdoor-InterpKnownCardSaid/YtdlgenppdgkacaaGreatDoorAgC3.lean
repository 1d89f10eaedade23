/- Regions that draw their order: new places that are made out of turn and kept apart until one that keeps its turn comes to them. -/
import Derived.Test.YtdlgenppdgkacaaGreatDoorAgC2
set_option linter.unusedVariables false
set_option linter.unusedSimpArgs false
set_option linter.unusedSectionVars false
namespace Go.Proofs.YtdlgenppdgkacaaGreatDoor.Ag
open Go.RowKit (Below)
/-- A block that stands and is neither the call's nor frozen. -/
def Odd (K : Kr) (σ : Slots) (w : World) (b : Nat) : Prop := b < w.heap.size ∧ ¬ K.I b ∧ ¬ Owned K σ b

/-- What an operation makes at a place that was none: told of its operands and the places that it reads. -/
def lateOf (k : Nat) (ρ : List (Nat × TV)) (σ : Slots) : AOp → Option (TV × Item)
  | .alloc _ zs => some (.loc k 0 0, .box (zs.map .iv))
  | .blit _ e sz xs => match evAll ρ xs with
    | some vs => match litCells σ sz vs with
      | some cs => some (.lst k 0, .tl e sz cs)
      | none => none
    | none => none
  | _ => none
def latePlaces (ρ : List (Nat × TV)) : AOp → List Nat
  | .blit _ _ _ xs => xs.flatMap fun x => placeL (ev ρ x)
  | _ => []
where placeL : Option TV → List Nat
  | some (.lst k _) => [k]
  | some (.mp k _) => [k]
  | _ => []
theorem lateOf_ρ {k : Nat} {ρ ρ' : List (Nat × TV)} {σ : Slots} {o : AOp} (h : ∀ x ∈ opds o, ev ρ' x = ev ρ x) : lateOf k ρ' σ o = lateOf k ρ σ o := by
  cases o <;> try rfl
  rename_i k0 e sz xs
  simp only [lateOf, evAll_congr (xs := xs) h]
/-- A new thing, which is no place's yet. -/
def LateOk (P : Program) (N : Nat) (o : Oper) (s : St) (k : Nat) (r : TV) (it : Item) : Prop :=
  ∀ (K : Kr) (a : Act) (w : World), SRel N K s a w → ∃ w1 v b, (execOp a.eval o).run P w = .ok (.value v) w1 ∧ Grew w w1 none ∧ w.heap.size ≤ b ∧ b < w1.heap.size ∧ own it v = some b ∧ IRel K w1 it v ∧
    ∀ (K' : Kr) (w' : World), K'.A k 0 = v → 0 < K'.V k → TRel K' w' r v
section
variable {P : Program} {N : Nat} {s : St} {d : Option Tmp} {ty : TypeId} {ps : String} {af : Array Edge} {g : Option (Nat × Bool)}
theorem late_alloc {e : TypeId} {k : Nat} {cs : List IV} (hz : zeroIs P e cs) : LateOk P N ⟨d, .alloc e, ty, ps, af, g⟩ s k (.loc k 0 0) (.box (cs.map .iv)) := by
  intro K a w hs
  obtain ⟨i, z, hi, hz, hc⟩ := hz
  obtain ⟨c1, c2, c3⟩ := ivCells_rel hc K.I w
  have gr := Grew.alloc w (.cells z.cells e) none
  have le := (hs.slots.grew gr).2.le
  refine ⟨_, .pointer (some ⟨w.heap.size, 0, none⟩), w.heap.size, by simp [execOp, Instr.alloc, zeroValue, typeInfo, hi, hz, newVar, newRow], gr, Nat.le_refl _, by simp, rfl, ?_, ?_⟩
  · refine ⟨w.heap.size, e, z.cells, rfl, heap_last w _, by simpa using c1, fun q c u hq hu => ?_⟩
    simp only [List.getElem?_map, Option.map_eq_some_iff] at hq
    obtain ⟨y, hy, rfl⟩ := hq
    exact ⟨(TRel.iv _ _ (c3 q y u hy hu).1).mono le, (c3 q y u hy hu).2⟩
  · intro K' w' hA hV
    exact .loc k 0 0 w.heap.size hV hA
theorem late_blit {t e : TypeId} {k : Nat} {i : TypeInfo} {z : Value} {ops : List Operand} {r : List AOpd} {vs : List TV} {cs : List TV} (ht : P.underlying t = some (.slice e)) (hi : P.info? e = some i) (hz : i.zero = some z)
    (h0 : 0 < i.size) (hsm : ops.length * i.size ≤ 2 ^ 24) (hne : ops ≠ []) (tr : ops.mapM trOpd = some r) (he : evAll s.ρ r = some vs) (hl : litCells s.σ i.size vs = some cs) :
    LateOk P N ⟨d, .buildSlice t ops.length (partsInOrder ops).toArray, ty, ps, af, g⟩ s k (.lst k 0) (.tl e i.size cs) := by
  intro K a w hs
  obtain ⟨e1, e2⟩ := evAll_rel hs ops r vs tr he
  have e1' : vs.length = (ops.map a.eval).length := by simpa using e1
  obtain ⟨f0, f1, f2, f3⟩ := litCells_rel hs.slots e1' hl e2
  have hfill := Go.Great.fill_whole h0 (ops.map a.eval) ((Array.range (ops.length * i.size)).map (z.cells[· % z.cells.size]!)) f2 (by simp)
  have hlo : 0 < ops.length := by cases ops; exact absurd rfl hne; simp
  have hpos : 0 < ops.length * i.size := Nat.mul_pos hlo h0
  have hparts : ((partsInOrder ops).toArray.map fun (x : Nat × Operand) => (x.1, a.eval x.2)).toList = ((ops.map a.eval).zipIdx 0).map fun x => (x.2, x.1) := by
    simp only [partsInOrder, List.map_toArray, List.map_map, List.zipIdx_map]
    rfl
  have hrun := run_buildSlice (P := P) w t e ops.length ((partsInOrder ops).toArray.map fun (x : Nat × Operand) => (x.1, a.eval x.2)) _ i z ht hi hz (by omega) (by omega) (by rw [hparts]; exact hfill)
  generalize hC : ((ops.map a.eval).flatMap fun v => v.cells.toList) = C at hrun f1 f3
  have hvl : vs.length = ops.length := by simpa using e1'
  have hle : ops.length ≤ 2 ^ 24 := Nat.le_trans (Nat.le_mul_of_pos_right _ h0) hsm
  have gr := Grew.alloc w (.cells C.toArray e) none
  have le := (hs.slots.grew gr).2.le
  refine ⟨w.alloc (.cells C.toArray e), .slice (some ⟨w.heap.size, 0, none⟩) ops.length ops.length, w.heap.size, ?_, gr, Nat.le_refl _, by simp, rfl, ?_, ?_⟩
  · simp only [execOp, Sem.run_bind, hrun]; rfl
  · exact ⟨ops.length, C, h0, by rw [f0, hvl], ⟨by rw [f1, f0, hvl], .inr ⟨w.heap.size, ops.length, C.toArray, rfl, Nat.zero_le _, heap_last w _, Nat.le_refl _, by unfold maxLen; omega, by simp [f1, f0, hvl], by
      rw [List.take_of_length_le]; simp [f1, f0, hvl]⟩⟩, fun q c u hc hu => ⟨(f3 q c u hc hu).1.mono le, (f3 q c u hc hu).2⟩⟩
  · intro K' w' hA hV
    rw [← hA]; exact .lst k 0 hV
end
theorem late_ok {P : Program} {N ch : Nat} {o : Oper} {ao : AOp} {s : St} {k : Nat} {r : TV} {it : Item} (ht : trOp P ch o = some ao) (h : lateOf k s.ρ s.σ ao = some (r, it)) : LateOk P N o s k r it := by
  have h0 : trOp0 P ch o = some ao := by
    unfold trOp at ht
    split at ht
    · rename_i r0 hr0
      injection ht with ht; subst ht
      rcases trX0_is hr0 with ⟨_, _, _, rfl⟩ | ⟨_, _, _, _, rfl⟩ | ⟨_, _, _, rfl⟩ | ⟨_, _, _, rfl⟩ | ⟨_, _, _, _, _, rfl⟩ | ⟨_, _, _, rfl⟩ | ⟨_, _, rfl⟩ | ⟨_, _, _, rfl⟩ | ⟨_, rfl⟩ | ⟨_, _, rfl⟩ <;> simp [lateOf] at h
    · split at ht
      · rename_i r0 hr0
        split at ht
        · injection ht with ht; subst ht; exact hr0
        · injection ht with ht; subst ht; simp [lateOf] at h
      · split at ht
        · cases ht
        · injection ht with ht; subst ht; simp [lateOf] at h
  obtain ⟨d, op, ty, ps, af, g⟩ := o
  cases ao <;> simp only [lateOf, reduceCtorEq] at h
  case alloc k0 zs =>
    injection h with h; injection h with h1 h2; subst h1; subst h2
    have : ∃ e, op = .alloc e ∧ zeroOf P e = some zs := by
      cases op
      case alloc e =>
        simp only [trOp0] at h0
        split at h0
        · rename_i zs' hz
          split at h0
          · injection h0 with h0; injection h0 with h1 h2; subst h2; exact ⟨e, rfl, hz⟩
          · cases h0
        · cases h0
      case makeMap t res => cases res <;> (simp only [trOp0] at h0; repeat' split at h0) <;> first | (cases h0; done) | (injection h0 with h0; cases h0; done)
      all_goals (simp only [trOp0] at h0; repeat' split at h0)
      all_goals first
        | (cases h0; done)
        | (injection h0 with h0; cases h0; done)
        | (injection h0 with h0; split at h0 <;> cases h0; done)
    obtain ⟨e, rfl, hz⟩ := this
    exact late_alloc (zeroOf_is hz)
  case blit k0 e sz xs =>
    split at h
    · rename_i vs hvs
      split at h
      · rename_i cs hcs
        injection h with h; injection h with h1 h2; subst h1; subst h2
        cases op
        case buildSlice t n parts =>
          simp only [trOp0] at h0
          split at h0
          · rename_i e' he
            split at h0
            · rename_i i ops hi hops
              split at h0
              · rename_i z r' hz hr
                split at h0
                · injection h0 with h0; cases h0
                split at h0
                · rename_i hcond
                  obtain ⟨c1, c2, c3, c4⟩ := hcond
                  have e1 : parts = (partsInOrder ops).toArray := by
                    apply Array.ext'
                    rw [inOrder_is hops]; rfl
                  have hne : ops ≠ [] := by intro e; subst e; simp at c3; exact c4 c3
                  cases ch with
                  | zero => injection h0 with h0; cases h0
                  | succ k1 =>
                    injection h0 with h0; injection h0 with g1 g2 g3 g4
                    subst g2; subst g3; subst g4
                    rw [c3, e1]
                    exact late_blit he hi hz c1 c2 hne hr hvs hcs
                · cases h0
              · cases h0
            · cases h0
          · cases h0
        case makeMap t res => cases res <;> (simp only [trOp0] at h0; repeat' split at h0) <;> first | (cases h0; done) | (injection h0 with h0; cases h0; done)
        all_goals (simp only [trOp0] at h0; repeat' split at h0)
        all_goals first
          | (cases h0; done)
          | (injection h0 with h0; cases h0; done)
          | (injection h0 with h0; split at h0 <;> cases h0; done)
      · cases h
    · cases h

/-- One operation: it turns no place (a read, with 1000000, of places of X alone); it makes the place 'Pl k', which was none, and nothing looks at it but what keeps its turn (with 7000000); or it keeps its turn among all that touch places (with 2000000 behind all reads). -/
def DOneL (P : Program) (bd X : List Nat) (Pl : Nat → Nat) (k : Nat) (i : AIns) (s s' : St) : Prop :=
  ((bd.contains k = false ∧ bd.contains (k + 7000000) = false) ∧ ∃ r, (FStep P s.ρ i.op r ∨ (bd.contains (k + 1000000) = true ∧ ∀ σ', (∀ p ∈ X, lk σ' p = lk s.σ p) → aop s.ρ σ' i.op = some (r, σ'))) ∧ s' = s.put i.dst r) ∨
  (bd.contains k = true ∧ ∃ r σ', BStep P s.ρ s.σ i.op r σ' ∧ (bd.contains (k + 2000000) = false → ∀ p ∈ X, lk σ' p = lk s.σ p) ∧ s' = ({ s with σ := σ' }.put i.dst r))
def DLate (bd X : List Nat) (Pl : Nat → Nat) (k : Nat) (i : AIns) (s s' : St) : Prop :=
  bd.contains k = false ∧ bd.contains (k + 7000000) = true ∧ i.guard = none ∧ ∃ d r it, i.dst = some d ∧ Pl k ∉ X ∧ lk s.σ (Pl k) = none ∧
    (∀ σ', (bd.contains (k + 1000000) = true → ∀ p ∈ X, lk σ' p = lk s.σ p) → lateOf (Pl k) s.ρ σ' i.op = some (r, it)) ∧ s' = ({ s with σ := upd s.σ (Pl k) (0, it) }.put (some d) r)
def DStepL (P : Program) (bd X : List Nat) (Pl : Nat → Nat) (k : Nat) (i : AIns) (s s' : St) : Prop :=
  DLate bd X Pl k i s s' ∨ (bd.contains (k + 7000000) = false ∧ match i.guard with
  | none => DOneL P bd X Pl k i s s'
  | some (t, want) => (lk s.ρ t = some .dead ∧ s' = s.put i.dst .dead) ∨ ∃ c, lk s.ρ t = some (.iv (.bool c)) ∧ (c = want → DOneL P bd X Pl k i s s') ∧ (c ≠ want → s' = s.put i.dst .dead))
/-- Nothing looks at what is made late but what keeps its turn. -/
def lateR (bd : List Nat) (is : List AIns) : Prop := ∀ (j k : Nat) (y x : AIns) (d : Nat), is[j]? = some y → is[k]? = some x → bd.contains (j + 7000000) = true → y.dst = some d → bd.contains k = false → d ∉ readsOf x

section
variable {P : Program} {N : Nat} {ops : Array Oper} {is : List AIns} {bd X : List Nat} {Pl : Nat → Nat} {anc : List (List Nat)} {S : Nat → St}
structure ChainL (P : Program) (is : List AIns) (bd X : List Nat) (Pl : Nat → Nat) (S : Nat → St) : Prop where
  step : ∀ (i : Nat) (x : AIns), is[i]? = some x → DStepL P bd X Pl i x (S i) (S (i + 1))
  late : lateR bd is
theorem ChainL.lk1 (ch : ChainL P is bd X Pl S) {i : Nat} {x : AIns} (hx : is[i]? = some x) (t : Nat) (ht : x.dst ≠ some t) : lk (S (i + 1)).ρ t = lk (S i).ρ t := by
  have one : DOneL P bd X Pl i x (S i) (S (i + 1)) → Ag.lk (S (i + 1)).ρ t = Ag.lk (S i).ρ t := by
    rintro (⟨_, r, _, e⟩ | ⟨_, r, σ', _, _, e⟩)
    · rw [e, lk_put, if_neg ht]
    · rw [e, lk_put, if_neg ht]
  rcases ch.step i x hx with ⟨_, _, _, d, r, it, hd, _, _, _, e⟩ | ⟨_, h⟩
  · rw [e, lk_put, ← hd, if_neg ht]
  split at h
  · exact one h
  · rcases h with ⟨_, h2⟩ | ⟨c, _, h1, h2⟩
    · rw [h2, lk_put, if_neg ht]
    rename_i t' want hguard hlk
    by_cases hcw : c = want
    · exact one (h1 hcw)
    · rw [h2 hcw, lk_put, if_neg ht]
theorem ChainL.lk_same (ch : ChainL P is bd X Pl S) (t : Nat) : ∀ (k i : Nat), i + k ≤ is.length → (∀ (j : Nat) (x : AIns), i ≤ j → j < i + k → is[j]? = some x → x.dst ≠ some t) → Ag.lk (S (i + k)).ρ t = Ag.lk (S i).ρ t
  | 0, i, _, _ => rfl
  | k + 1, i, hl, hb => by
    have hx : is[i + k]? = some (is[i + k]'(by omega)) := by simp
    have := ch.lk1 hx t (hb (i + k) _ (by omega) (by omega) hx)
    rw [show i + (k + 1) = i + k + 1 by omega, this]
    exact ChainL.lk_same ch t k i (by omega) (fun j x h1 h2 => hb j x h1 (by omega))
/-- What an operation does to the places. -/
theorem ChainL.σ1 (ch : ChainL P is bd X Pl S) {i : Nat} {x : AIns} (hx : is[i]? = some x) : DLate bd X Pl i x (S i) (S (i + 1)) ∨ (bd.contains (i + 7000000) = false ∧ ((S (i + 1)).σ = (S i).σ ∨
    (bd.contains i = true ∧ (bd.contains (i + 2000000) = false → ∀ p ∈ X, Ag.lk (S (i + 1)).σ p = Ag.lk (S i).σ p)))) := by
  have one : DOneL P bd X Pl i x (S i) (S (i + 1)) → (S (i + 1)).σ = (S i).σ ∨ (bd.contains i = true ∧ (bd.contains (i + 2000000) = false → ∀ p ∈ X, Ag.lk (S (i + 1)).σ p = Ag.lk (S i).σ p)) := by
    rintro (⟨_, r, _, e⟩ | ⟨h0, r, σ', _, h1, e⟩)
    · exact .inl (by rw [e, St.put_σ])
    · exact .inr ⟨h0, fun hn p hp => by rw [e, St.put_σ]; exact h1 hn p hp⟩
  rcases ch.step i x hx with h | ⟨h0, h⟩
  · exact .inl h
  refine .inr ⟨h0, ?_⟩
  split at h
  · exact one h
  · rcases h with ⟨_, h2⟩ | ⟨c, _, h1, h2⟩
    · exact .inl (by rw [h2, St.put_σ])
    rename_i t' want hguard hlk
    by_cases hcw : c = want
    · exact one (h1 hcw)
    · exact .inl (by rw [h2 hcw, St.put_σ])

/-- A thing that is no place's yet: what is known of it. -/
def Pend (K0 : Kr) (w0 : World) (S : Nat → St) (Pl : Nat → Nat) (vf : Nat → Value) (bf : Nat → Nat) (K : Kr) (σ : Slots) (a : Act) (w : World) (j d : Nat) : Prop :=
  a.tmps[d]? = some (vf j) ∧ w0.heap.size ≤ bf j ∧ Odd K σ w (bf j) ∧ ∃ r it, lk (S (j + 1)).ρ d = some r ∧ lk (S (j + 1)).σ (Pl j) = some (0, it) ∧ own it (vf j) = some (bf j) ∧ IRel K w it (vf j) ∧
    ∀ (K' : Kr) (w' : World), K'.A (Pl j) 0 = vf j → 0 < K'.V (Pl j) → TRel K' w' r (vf j)
theorem Pend.evo {K0 : Kr} {w0 : World} {vf : Nat → Value} {bf : Nat → Nat} {K K' : Kr} {σ σ' : Slots} {a a' : Act} {w w' : World} {j d : Nat} (h : Pend K0 w0 S Pl vf bf K σ a w j d) (he : Evo K σ w K' σ' w') (ha : a'.tmps[d]? = a.tmps[d]?) : Pend K0 w0 S Pl vf bf K' σ' a' w' j d := by
  obtain ⟨h1, h2, ⟨h3, h4, h5⟩, r, it, h6, h7, h8, h9, h10⟩ := h
  refine ⟨ha.trans h1, h2, ⟨Nat.lt_of_lt_of_le h3 he.size, fun hI => ?_, fun hO => ?_⟩, r, it, h6, h7, h8, h9.mono he.le (fun b hb => ?_), h10⟩
  · rcases he.newI _ hI with g | g | g
    · exact h4 g
    · exact h5 g
    · omega
  · rcases he.newO _ hO with g | g
    · exact h5 g
    · omega
  · rw [h8] at hb; injection hb with hb; subst hb
    exact he.rest _ h3 h5
def del (d : Nat) (ρ : List (Nat × TV)) : List (Nat × TV) := ρ.filter fun x => x.1 != d
theorem lk_del (d t : Nat) : ∀ (ρ : List (Nat × TV)), lk (del d ρ) t = if t = d then none else lk ρ t
  | [] => by simp [del, lk]
  | (k, v) :: l => by
    have ih := lk_del d t l
    simp only [del] at ih
    by_cases hk : k = d
    · subst hk
      simp only [del, List.filter_cons, bne_self_eq_false, Bool.false_eq_true, if_false, lk, ih]
      by_cases ht : t = k
      · rw [if_pos ht, if_pos ht]
      · rw [if_neg ht, if_neg ht, if_neg (Ne.symm ht)]
    · have : (k != d) = true := by simpa using hk
      simp only [del, List.filter_cons, this, if_true, lk, ih]
      by_cases ht : t = d
      · subst ht; rw [if_neg hk, if_pos rfl, if_pos rfl]
      · rw [if_neg ht, if_neg ht]

/-- What holds while the operations of 'L' have been done: 'm' is behind the last of those that keep their turn; what is made late behind it is kept apart. -/
def MidL (N : Nat) (is : List AIns) (bd : List Nat) (S : Nat → St) (Pl : Nat → Nat) (K0 : Kr) (w0 : World) (L : Array Bool) (a : Act) (w : World) (q : Nat) (K : Kr) (s : St) (vf : Nat → Value) (bf : Nat → Nat) : Prop :=
  SRel N K s a w ∧ Evo K0 (S 0).σ w0 K s.σ w ∧
    (∀ (j : Nat) (y : AIns) (d : Nat), is[j]? = some y → L[j]? = some true → (bd.contains (j + 7000000) = true → j < q) → y.dst = some d → lk s.ρ d = lk (S (j + 1)).ρ d) ∧
    (∀ t, (∀ (j : Nat) (y : AIns), is[j]? = some y → L[j]? = some true → y.dst ≠ some t) → lk s.ρ t = lk (S 0).ρ t) ∧
    (∀ p, lk s.σ p = lk (S q).σ p) ∧
    (∀ (j : Nat) (y : AIns) (d : Nat), is[j]? = some y → L[j]? = some true → bd.contains (j + 7000000) = true → q ≤ j → y.dst = some d → lk s.ρ d = none ∧ Pend K0 w0 S Pl vf bf K s.σ a w j d) ∧
    (∀ j j', j ≠ j' → L[j]? = some true → L[j']? = some true → bd.contains (j + 7000000) = true → bd.contains (j' + 7000000) = true → q ≤ j → q ≤ j' → bf j ≠ bf j')
structure DInvL (N : Nat) (ops : Array Oper) (is : List AIns) (bd : List Nat) (S : Nat → St) (Pl : Nat → Nat) (K0 : Kr) (w0 : World) (df : List Deferred) (L : Array Bool) (a : Act) (w : World) : Prop where
  size : L.size = ops.size
  closed : ∀ (j : Nat) (o : Oper), ops[j]? = some o → L[j]? = some true → ∀ e ∈ o.after, bindsAny e = true → L[e.on]? = some true
  defers : a.defers = df
  st : ∃ K s m vf bf, (m = 0 ∨ ∃ b, m = b + 1 ∧ bd.contains b = true ∧ L[b]? = some true) ∧ (∀ j, bd.contains j = true → L[j]? = some true → j < m) ∧ MidL N is bd S Pl K0 w0 L a w m K s vf bf

/-- What was made late comes to its place. -/
theorem adopt1 (hc : Chk ops is bd anc) (ch : ChainL P is bd X Pl S) {K0 : Kr} {w0 : World} {L : Array Bool} {a : Act} {w : World} {q : Nat} {K : Kr} {s : St} {vf : Nat → Value} {bf : Nat → Nat} {y : AIns} (hy : is[q]? = some y)
    (hl : bd.contains (q + 7000000) = true) (hL : L[q]? = some true) (h : MidL N is bd S Pl K0 w0 L a w q K s vf bf) : ∃ K' s', MidL N is bd S Pl K0 w0 L a w (q + 1) K' s' vf bf := by
  obtain ⟨hs, hE, h1, h2, h3, h4, h5⟩ := h
  rcases ch.σ1 hy with ⟨_, _, hg, d, r, it, hd, hX, hn, hlo, e⟩ | ⟨h0, _⟩
  · obtain ⟨hnone, ht, hw0, ⟨o1, o2, o3⟩, r', it', g1, g2, g3, g4, g5⟩ := h4 q y d hy hL hl (Nat.le_refl _) hd
    have er : r' = r := by rw [e, lk_put, if_pos rfl] at g1; injection g1 with g1; exact g1.symm
    have ei : it' = it := by rw [e, St.put_σ, lk_upd, if_pos rfl] at g2; injection g2 with g2; injection g2 with _ g2; exact g2.symm
    subst er; subst ei
    have hfree : lk s.σ (Pl q) = none := by rw [h3]; exact hn
    have hV : K.V (Pl q) = 0 := hs.slots.free _ hfree
    have le : K.Le w (K.add (Pl q) (vf q)) w := Kr.add_le _ _ (Stays.refl _ _)
    have hA1 : (K.add (Pl q) (vf q)).A (Pl q) 0 = vf q := by simp [Kr.add, hV]
    have hV1 : (K.add (Pl q) (vf q)).V (Pl q) = 1 := by simp [Kr.add, hV]
    have hA' : ∀ k' n', k' ≠ Pl q → (K.add (Pl q) (vf q)).A k' n' = K.A k' n' := fun k' n' hne => by simp [Kr.add, hne]
    have hOwn : ∀ b, Owned (K.add (Pl q) (vf q)) (upd s.σ (Pl q) (0, it')) b → Owned K s.σ b ∨ b = bf q := by
      rintro b ⟨k', n', it2, hlk, ho⟩
      rw [lk_upd] at hlk
      split at hlk
      · rename_i e'; subst e'
        simp only [Option.some.injEq, Prod.mk.injEq] at hlk
        obtain ⟨rfl, rfl⟩ := hlk
        rw [hA1, g3] at ho; injection ho with ho
        exact .inr ho.symm
      · rename_i e'
        rw [hA' k' n' (Ne.symm e')] at ho
        exact .inl ⟨k', n', it2, hlk, ho⟩
    have hslots : SlotsRel (K.add (Pl q) (vf q)) (upd s.σ (Pl q) (0, it')) w := by
      refine ⟨?_, ?_, ?_, ?_, fun b hb => hs.slots.old b hb⟩
      · intro k' n' it2 hlk
        rw [lk_upd] at hlk
        split at hlk
        · rename_i e'; subst e'
          simp only [Option.some.injEq, Prod.mk.injEq] at hlk
          obtain ⟨rfl, rfl⟩ := hlk
          exact ⟨hV1, by rw [hA1]; exact g4.mono le (fun _ _ => rfl)⟩
        · rename_i e'
          obtain ⟨q1, q2⟩ := hs.slots.rel k' n' it2 hlk
          refine ⟨by simp [Kr.add, Ne.symm e', q1], ?_⟩
          rw [hA' k' n' (Ne.symm e')]
          exact q2.mono le (fun _ _ => rfl)
      · intro k' hlk
        rw [lk_upd] at hlk
        split at hlk
        · cases hlk
        · rename_i e'
          simp only [Kr.add, if_neg (Ne.symm e')]
          exact hs.slots.free k' hlk
      · intro k1 k2 n1 n2 it1 it2 b p1 p2 q1 q2
        rw [lk_upd] at p1 p2
        split at p1 <;> split at p2
        · rename_i e1 e2; exact e1.symm.trans e2
        · rename_i e1 e2; subst e1
          simp only [Option.some.injEq, Prod.mk.injEq] at p1
          obtain ⟨rfl, rfl⟩ := p1
          rw [hA1, g3] at q1; injection q1 with q1; subst q1
          rw [hA' k2 n2 (Ne.symm e2)] at q2
          exact absurd ⟨k2, n2, it2, p2, q2⟩ o3
        · rename_i e1 e2; subst e2
          simp only [Option.some.injEq, Prod.mk.injEq] at p2
          obtain ⟨rfl, rfl⟩ := p2
          rw [hA1, g3] at q2; injection q2 with q2; subst q2
          rw [hA' k1 n1 (Ne.symm e1)] at q1
          exact absurd ⟨k1, n1, it1, p1, q1⟩ o3
        · rename_i e1 e2
          rw [hA' k1 n1 (Ne.symm e1)] at q1
          rw [hA' k2 n2 (Ne.symm e2)] at q2
          exact hs.slots.apart k1 k2 n1 n2 it1 it2 b p1 p2 q1 q2
      · intro b hb
        rcases hOwn b hb with h6 | rfl
        · exact hs.slots.imm b h6
        · exact ⟨o2, o1⟩
    refine ⟨K.add (Pl q) (vf q), { ρ := (d, r') :: s.ρ, σ := upd s.σ (Pl q) (0, it') }, ⟨hs.size, fun t v hv => ?_, hslots⟩, ?_, ?_, ?_, ?_, ?_, fun j j' hne g6 g7 g8 g9 g10 g11 => h5 j j' hne g6 g7 g8 g9 (by omega) (by omega)⟩
    · simp only [lk] at hv
      split at hv
      · rename_i e'; subst e'; injection hv with hv; subst hv
        exact ⟨vf q, ht, g5 _ _ hA1 (by rw [hV1]; exact Nat.one_pos)⟩
      · obtain ⟨u, hu, hur⟩ := hs.tmps t v hv
        exact ⟨u, hu, hur.mono le⟩
    · refine ⟨hE.le.trans le, hE.os, hE.tape, hE.output, hE.size, hE.rest, fun b hb => hE.newI b hb, fun b hb => ?_⟩
      rcases hOwn b hb with h6 | rfl
      · exact hE.newO b h6
      · exact .inr hw0
    · intro j y2 d2 hy2 hL2 hl2 hd2
      simp only [lk]
      by_cases hjq : j = q
      · subst hjq
        rw [hy] at hy2; injection hy2 with hy2; subst hy2
        rw [hd] at hd2; injection hd2 with hd2; subst hd2
        rw [if_pos rfl, g1]
      · have hne : d ≠ d2 := by
          rintro rfl
          rcases Nat.lt_or_gt_of_ne hjq with h6 | h6
          · exact hc.dst j q y2 y d h6 hy2 hy hd2 hd
          · exact hc.dst q j y y2 d h6 hy hy2 hd hd2
        rw [if_neg hne]
        exact h1 j y2 d2 hy2 hL2 (fun hl3 => by have := hl2 hl3; omega) hd2
    · intro t ht2
      have hne : d ≠ t := by rintro rfl; exact ht2 q y hy hL hd
      simp only [lk, if_neg hne]
      exact h2 t ht2
    · intro p
      rw [e, St.put_σ, lk_upd, lk_upd]
      split
      · rfl
      · exact h3 p
    · intro j y2 d2 hy2 hL2 hl2 hq2 hd2
      obtain ⟨p1, p2⟩ := h4 j y2 d2 hy2 hL2 hl2 (by omega) hd2
      have hne : d ≠ d2 := by
        rintro rfl
        exact hc.dst q j y y2 d (by omega) hy hy2 hd hd2
      refine ⟨by simp only [lk, if_neg hne]; exact p1, ?_⟩
      obtain ⟨z1, z2, ⟨z3, z4, z5⟩, rr, ii, z6, z7, z8, z9, z10⟩ := p2
      refine ⟨z1, z2, ⟨z3, z4, fun hO => ?_⟩, rr, ii, z6, z7, z8, z9.mono le (fun _ _ => rfl), z10⟩
      rcases hOwn _ hO with h6 | h6
      · exact z5 h6
      · exact h5 j q (by omega) hL2 hL hl2 hl (by omega) (Nat.le_refl _) h6
  · rw [hl] at h0; cases h0
theorem adopts (hlen : is.length = ops.size) (hc : Chk ops is bd anc) (ch : ChainL P is bd X Pl S) {K0 : Kr} {w0 : World} {L : Array Bool} {a : Act} {w : World} {vf : Nat → Value} {bf : Nat → Nat} : ∀ (k q : Nat) {K : Kr} {s : St}, q + k ≤ is.length →
    (∀ j, q ≤ j → j < q + k → bd.contains j = false) → (∀ j, q ≤ j → j < q + k → bd.contains (j + 7000000) = true → L[j]? = some true) → MidL N is bd S Pl K0 w0 L a w q K s vf bf → ∃ K' s', MidL N is bd S Pl K0 w0 L a w (q + k) K' s' vf bf
  | 0, q, K, s, _, _, _, h => ⟨K, s, h⟩
  | k + 1, q, K, s, hk, hb, hd, h => by
    have hy : is[q]? = some (is[q]'(by omega)) := by simp
    have next : ∃ K' s', MidL N is bd S Pl K0 w0 L a w (q + 1) K' s' vf bf := by
      cases hl : bd.contains (q + 7000000) with
      | true => exact adopt1 hc ch hy hl (hd q (Nat.le_refl _) (by omega) hl) h
      | false =>
        have hsame : (S (q + 1)).σ = (S q).σ := by
          rcases ch.σ1 hy with ⟨_, h0, _⟩ | ⟨_, h0 | ⟨h0, _⟩⟩
          · rw [hl] at h0; cases h0
          · exact h0
          · rw [hb q (Nat.le_refl _) (by omega)] at h0; cases h0
        obtain ⟨hs, hE, h1, h2, h3, h4, h5⟩ := h
        refine ⟨K, s, hs, hE, fun j y d hy hL hq hd => h1 j y d hy hL (fun hl2 => ?_) hd, h2, fun p => by rw [hsame]; exact h3 p, fun j y d hy hL hl2 hq hd => h4 j y d hy hL hl2 (by omega) hd, fun j j' hne g6 g7 g8 g9 g10 g11 => h5 j j' hne g6 g7 g8 g9 (by omega) (by omega)⟩
        have := hq hl2
        rcases Nat.lt_or_ge j q with h6 | h6
        · exact h6
        · obtain rfl : j = q := by omega
          rw [hl] at hl2; cases hl2
    obtain ⟨K1, s1, h1⟩ := next
    have := adopts hlen hc ch k (q + 1) (by omega) (fun j g1 g2 => hb j (by omega) (by omega)) (fun j g1 g2 => hd j (by omega) (by omega)) h1
    rw [show q + 1 + k = q + (k + 1) by omega] at this
    exact this
theorem put_other (a : Act) (u : Value) {dst : Option Nat} {d : Nat} (h : dst ≠ some d) : (a.put dst u).tmps[d]? = a.tmps[d]? := by
  cases dst with
  | none => rfl
  | some e => simp only [Act.put]; rw [Array.getElem?_setIfInBounds_ne (fun e' => h (by rw [e']))]
theorem set_iff {L : Array Bool} {i n : Nat} (hs : L.size = n) (hi : i < n) (j : Nat) : (L.setIfInBounds i true)[j]? = some true ↔ (j = i ∨ L[j]? = some true) := by
  by_cases e : i = j
  · subst e; simp [hs, hi]
  · rw [Array.getElem?_setIfInBounds_ne e]
    constructor
    · exact fun h => .inr h
    · rintro (h | h)
      · exact absurd h.symm e
      · exact h
/-- One that makes nothing late has been done. -/
theorem MidL.step (hc : Chk ops is bd anc) {K0 : Kr} {w0 : World} {L : Array Bool} (hsz : L.size = ops.size) {a : Act} {w : World} {q : Nat} {K : Kr} {s : St} {vf : Nat → Value} {bf : Nat → Nat} (h : MidL N is bd S Pl K0 w0 L a w q K s vf bf)
    {i : Nat} {x : AIns} (hx : is[i]? = some x) (hilt : i < ops.size) (hL : L[i]? = some false) (hnl : bd.contains (i + 7000000) = false) {K' : Kr} {s' : St} {a' : Act} {w' : World} {q' : Nat} (hs' : SRel N K' s' a' w') (hE' : Evo K s.σ w K' s'.σ w')
    (hρ : ∀ t, lk s'.ρ t = if x.dst = some t then lk (S (i + 1)).ρ t else lk s.ρ t) (hσ : ∀ p, lk s'.σ p = lk (S q').σ p) (hqq : q ≤ q') (hq : ∀ j, L[j]? = some true → bd.contains (j + 7000000) = true → q ≤ j → q' ≤ j)
    (ha : ∀ d, x.dst ≠ some d → a'.tmps[d]? = a.tmps[d]?) : MidL N is bd S Pl K0 w0 (L.setIfInBounds i true) a' w' q' K' s' vf bf := by
  obtain ⟨hs, hE, h1, h2, h3, h4, h5⟩ := h
  have hLi := set_iff hsz hilt
  have hne : ∀ (j : Nat) (y : AIns) (d : Nat), L[j]? = some true → is[j]? = some y → y.dst = some d → x.dst ≠ some d := by
    intro j y d hj hy hd e
    have : j ≠ i := by rintro rfl; rw [hL] at hj; cases hj
    rcases Nat.lt_or_gt_of_ne this with g | g
    · exact hc.dst j i y x d g hy hx hd e
    · exact hc.dst i j x y d g hx hy e hd
  refine ⟨hs', hE.trans hE', ?_, ?_, hσ, ?_, ?_⟩
  · intro j y d hy hj hl hd
    rw [hLi] at hj
    rw [hρ]
    rcases hj with rfl | hj
    · rw [hx] at hy; injection hy with hy; subst hy
      rw [if_pos hd]
    · rw [if_neg (hne j y d hj hy hd)]
      refine h1 j y d hy hj (fun hl2 => ?_) hd
      rcases Nat.lt_or_ge j q with g | g
      · exact g
      · have := hq j hj hl2 g; have := hl hl2; omega
  · intro t ht
    rw [hρ, if_neg (ht i x hx ((hLi i).2 (.inl rfl)))]
    exact h2 t fun j y hy hj => ht j y hy ((hLi j).2 (.inr hj))
  · intro j y d hy hj hl hqj hd
    rw [hLi] at hj
    rcases hj with rfl | hj
    · rw [hnl] at hl; cases hl
    · obtain ⟨g1, g2⟩ := h4 j y d hy hj hl (by omega) hd
      have e := hne j y d hj hy hd
      exact ⟨by rw [hρ, if_neg e]; exact g1, g2.evo hE' (ha d e)⟩
  · intro j j' g1 g2 g3 g4 g5 g6 g7
    rw [hLi] at g2 g3
    rcases g2 with rfl | g2
    · rw [hnl] at g4; cases g4
    rcases g3 with rfl | g3
    · rw [hnl] at g5; cases g5
    exact h5 j j' g1 g2 g3 g4 g5 (by omega) (by omega)
/-- One that makes a thing late has been done. -/
theorem MidL.mk (hlen : is.length = ops.size) (hc : Chk ops is bd anc) (ch : ChainL P is bd X Pl S) {K0 : Kr} {w0 : World} {L : Array Bool} (hsz : L.size = ops.size) {a : Act} {w : World} {q : Nat} {K : Kr} {s : St} {vf : Nat → Value} {bf : Nat → Nat} (h : MidL N is bd S Pl K0 w0 L a w q K s vf bf)
    {i : Nat} {x : AIns} (hx : is[i]? = some x) (hilt : i < ops.size) (hL : L[i]? = some false) (hl : bd.contains (i + 7000000) = true) (hqi : q ≤ i) {d : Nat} (hd : x.dst = some d) (hdN : d < N) {r : TV} {it : Item} {v : Value} {b : Nat} {w1 : World}
    (gr : Grew w w1 none) (hb1 : w.heap.size ≤ b) (hb2 : b < w1.heap.size) (ho : own it v = some b) (hir : IRel K w1 it v) (htr : ∀ (K' : Kr) (w' : World), K'.A (Pl i) 0 = v → 0 < K'.V (Pl i) → TRel K' w' r v)
    (e : S (i + 1) = ({ S i with σ := upd (S i).σ (Pl i) (0, it) }.put (some d) r)) :
    MidL N is bd S Pl K0 w0 (L.setIfInBounds i true) (a.put (some d) v) w1 q K { s with ρ := del d s.ρ } (fun j => if j = i then v else vf j) (fun j => if j = i then b else bf j) := by
  obtain ⟨hs, hE, h1, h2, h3, h4, h5⟩ := h
  have hLi := set_iff hsz hilt
  obtain ⟨gs, gE⟩ := hs.slots.grew gr
  have nei : ∀ j, L[j]? = some true → j ≠ i := by rintro j hj rfl; rw [hL] at hj; cases hj
  have hne : ∀ (j : Nat) (y : AIns) (d' : Nat), L[j]? = some true → is[j]? = some y → y.dst = some d' → d' ≠ d := by
    rintro j y d' hj hy hd' rfl
    rcases Nat.lt_or_gt_of_ne (nei j hj) with g | g
    · exact hc.dst j i y x d' g hy hx hd' hd
    · exact hc.dst i j x y d' g hx hy hd hd'
  refine ⟨⟨by simp [Act.put, hs.size], fun t u hu => ?_, gs⟩, hE.trans gE, ?_, ?_, h3, ?_, ?_⟩
  · rw [lk_del] at hu
    split at hu
    · cases hu
    · rename_i hne'
      obtain ⟨y, hy, hr⟩ := hs.tmps t u hu
      exact ⟨y, by rw [put_other a v (fun e' => hne' (by injection e' with e'; exact e'.symm))]; exact hy, hr.mono gE.le⟩
  · intro j y d' hy hj hl' hd'
    rw [hLi] at hj
    rcases hj with rfl | hj
    · have := hl' hl; omega
    · rw [lk_del, if_neg (hne j y d' hj hy hd')]
      exact h1 j y d' hy hj hl' hd'
  · intro t ht
    have : t ≠ d := by rintro rfl; exact ht i x hx ((hLi i).2 (.inl rfl)) hd
    rw [lk_del, if_neg this]
    exact h2 t fun j y hy hj => ht j y hy ((hLi j).2 (.inr hj))
  · intro j y d' hy hj hl' hqj hd'
    rw [hLi] at hj
    rcases hj with rfl | hj
    · rw [hx] at hy; injection hy with hy; subst hy
      rw [hd] at hd'; injection hd' with hd'; subst hd'
      refine ⟨by rw [lk_del, if_pos rfl], by simp [Act.put, hs.size, hdN], ?_, ⟨?_, ?_, ?_⟩, r, it, ?_, ?_, ?_, ?_, ?_⟩
      · simp only [if_pos]; exact Nat.le_trans hE.size hb1
      · simp only [if_pos]; exact hb2
      · simp only [if_pos]; intro hI; have := hs.slots.old b hI; omega
      · simp only [if_pos]; intro hO; have := (hs.slots.imm b hO).2; omega
      · rw [e, lk_put, if_pos rfl]
      · rw [e, St.put_σ, lk_upd, if_pos rfl]
      · simp only [if_pos]; exact ho
      · simp only [if_pos]; exact hir
      · simp only [if_pos]; exact htr
    · obtain ⟨g1, g2⟩ := h4 j y d' hy hj hl' hqj hd'
      have e' := hne j y d' hj hy hd'
      refine ⟨by rw [lk_del, if_neg e']; exact g1, ?_⟩
      have g3 := g2.evo gE (a' := a.put (some d) v) (put_other a v (fun e'' => e' (by injection e'' with e''; exact e''.symm)))
      unfold Pend at g3 ⊢
      simp only [if_neg (nei j hj)]
      exact g3
  · intro j j' g1 g2 g3 g4 g5 g6 g7
    rw [hLi] at g2 g3
    have small : ∀ j, L[j]? = some true → bd.contains (j + 7000000) = true → q ≤ j → bf j < w.heap.size := by
      intro j k1 k2 k3
      have hjl : j < is.length := by
        have := (Array.getElem?_eq_some_iff.1 k1).1
        omega
      have hy : is[j]? = some (is[j]'hjl) := by simp
      rcases ch.σ1 hy with ⟨_, _, _, dj, _, _, hdj, _⟩ | ⟨g, _⟩
      · exact (h4 j _ dj hy k1 k2 k3 hdj).2.2.2.1.1
      · rw [k2] at g; cases g
    rcases g2 with rfl | g2 <;> rcases g3 with rfl | g3
    · exact absurd rfl g1
    · simp only [if_pos, if_neg (nei j' g3)]
      have := small j' g3 g5 g7; omega
    · simp only [if_pos, if_neg (nei j g2)]
      have := small j g2 g4 g6; omega
    · simp only [if_neg (nei j g2), if_neg (nei j' g3)]
      exact h5 j j' g1 g2 g3 g4 g5 g6 g7
theorem at_turnL (hl : is.length = ops.size) (hc : Chk ops is bd anc) (ch : ChainL P is bd X Pl S) {L : Array Bool} (hsz : L.size = ops.size) (hcl : ∀ (j : Nat) (o : Oper), ops[j]? = some o → L[j]? = some true → ∀ e ∈ o.after, bindsAny e = true → L[e.on]? = some true)
    {i : Nat} {x : AIns} (hx : is[i]? = some x) (hL : L[i]? = some false) (hready : ∀ o : Oper, ops[i]? = some o → ∀ e ∈ o.after, bindsAny e = true → L[e.on]? = some true) {q : Nat} (hq : bd.contains i = true → i ≤ q)
    {s : St} (h1 : ∀ (j : Nat) (y : AIns) (d : Nat), is[j]? = some y → L[j]? = some true → (bd.contains (j + 7000000) = true → j < q) → y.dst = some d → lk s.ρ d = lk (S (j + 1)).ρ d) (h2 : ∀ t, (∀ (j : Nat) (y : AIns), is[j]? = some y → L[j]? = some true → y.dst ≠ some t) → lk s.ρ t = lk (S 0).ρ t) :
    ∀ t ∈ readsOf x, lk s.ρ t = lk (S i).ρ t := by
  intro t ht
  have hilt : i < is.length := (List.getElem?_eq_some_iff.1 hx).1
  by_cases hw : ∃ (j : Nat) (y : AIns), j < i ∧ is[j]? = some y ∧ y.dst = some t
  · obtain ⟨j, y, hji, hy, hd⟩ := hw
    have hcl' : clash bd j i y x = true := by simp [clash, hd, ht]
    have hLj := anc_done hc hcl hsz i hready j (hc.ord j i y x hji hy hx hcl') (by omega)
    rw [h1 j y t hy hLj (fun hlj => by
      cases hbi : bd.contains i with
      | true => have := hq hbi; omega
      | false => exact absurd ht (ch.late j i y x t hy hx hlj hd hbi)) hd]
    have := ch.lk_same t (i - (j + 1)) (j + 1) (by omega) (fun k z hk1 hk2 hz e => hc.dst j k y z t (by omega) hy hz hd e)
    rw [show j + 1 + (i - (j + 1)) = i by omega] at this
    exact this.symm
  · have h0 : lk (S i).ρ t = lk (S 0).ρ t := by
      have := ch.lk_same t i 0 (by omega) (fun k z _ hk2 hz e => hw ⟨k, z, by omega, hz, e⟩)
      simpa using this
    rw [h0]
    refine h2 t fun j y hy hLj e => ?_
    rcases Nat.lt_trichotomy j i with h | h | h
    · exact hw ⟨j, y, h, hy, e⟩
    · subst h; rw [hL] at hLj; cases hLj
    · have hjlt : j < is.length := (List.getElem?_eq_some_iff.1 hy).1
      have hcl' : clash bd i j x y = true := by simp [clash, e, ht]
      have := anc_done hc hcl hsz j (fun o ho e' he' hb' => hcl j o ho hLj e' he' hb') i (hc.ord i j x y h hx hy hcl') (by omega)
      rw [hL] at this; cases this
/-- Places of X stay where nothing stands that keeps its turn behind the reads. -/
theorem ChainL.X1 (ch : ChainL P is bd X Pl S) {p : Nat} (hp : p ∈ X) {j : Nat} (hj : j < is.length) (h : bd.contains j = true → bd.contains (j + 2000000) = false) : Ag.lk (S (j + 1)).σ p = Ag.lk (S j).σ p := by
  rcases ch.σ1 (show is[j]? = some (is[j]'hj) by simp) with ⟨_, _, _, d, r, it, _, g, _, _, e⟩ | ⟨_, g | ⟨g, g'⟩⟩
  · have : Pl j ≠ p := by rintro rfl; exact g hp
    rw [e, St.put_σ, lk_upd, if_neg this]
  · rw [g]
  · exact g' (h g) p hp
theorem ChainL.Xs (ch : ChainL P is bd X Pl S) {p : Nat} (hp : p ∈ X) : ∀ (k m : Nat), m + k ≤ is.length → (∀ j, m ≤ j → j < m + k → bd.contains j = true → bd.contains (j + 2000000) = false) → Ag.lk (S (m + k)).σ p = Ag.lk (S m).σ p
  | 0, m, _, _ => rfl
  | k + 1, m, hl, h => by
    rw [show m + (k + 1) = m + k + 1 by omega, ch.X1 hp (by omega) (h (m + k) (by omega) (by omega))]
    exact ChainL.Xs ch hp k m (by omega) fun j h1 h2 => h j h1 (by omega)
theorem crawnL_ok (hl : is.length = ops.size) (hc : Chk ops is bd anc) (ch : ChainL P is bd X Pl S) (htr : ∀ (i : Nat) (o : Oper), ops[i]? = some o → ∃ x c, is[i]? = some x ∧ trIns P N ops c o = some x)
    {K0 : Kr} {w0 : World} {df : List Deferred} {Q : Exit → Act → World → Prop} (hk : ∀ K1 s1 a1 w1, SRel N K1 s1 a1 w1 → Evo K0 (S 0).σ w0 K1 s1.σ w1 → a1.defers = df → (∀ t, lk s1.ρ t = lk (S ops.size).ρ t) → (∀ p, lk s1.σ p = lk (S ops.size).σ p) → Q .normal a1 w1) :
    ∀ (fuel : Nat) (L : Array Bool) (a : Act) (w : World), DInvL N ops is bd S Pl K0 w0 df L a w → (List.range ops.size).countP (fun j => !L.getD j true) ≤ fuel → wpAny P .any ops Q fuel L a w := by
  have fin : ∀ (L : Array Bool) (a : Act) (w : World), DInvL N ops is bd S Pl K0 w0 df L a w → Region.ready .any ops L = [] → Q .normal a w := by
    intro L a w hi hr
    have all : ∀ j, j < ops.size → L[j]? = some true := by
      intro j
      induction j using Nat.strongRecOn with
      | _ j ih =>
        intro hj
        have hjl : j < L.size := by rw [hi.size]; exact hj
        cases hb : L[j] with
        | true => simp [hjl, hb]
        | false =>
          exfalso
          have : j ∈ Region.ready .any ops L := by
            unfold Region.ready
            rw [List.mem_filter]
            refine ⟨by simpa using hj, ?_⟩
            have ho : ops[j]? = some ops[j] := by simp [hj]
            have hLj : L.getD j true = false := by simp [Array.getD_eq_getD_getElem?, hjl, hb]
            rw [hLj, ho]
            simp only [Bool.not_false, Bool.true_and, Option.map_some, Option.getD_some]
            rw [Array.all_eq_true_iff_forall_mem]
            intro e he
            by_cases hbe : Region.binds .any e = true
            · have h1 := hc.back j _ ho e he hbe
              have := ih e.on h1 (by omega)
              simp [Array.getD_eq_getD_getElem?, this]
            · simp [hbe]
          rw [hr] at this
          cases this
    obtain ⟨K, s, m, vf, bf, hm, hb, hM⟩ := hi.st
    have hml : m ≤ is.length := by
      rcases hm with rfl | ⟨b, rfl, _, g⟩
      · omega
      · have := (Array.getElem?_eq_some_iff.1 g).1; rw [hi.size] at this; omega
    obtain ⟨K', s', hM'⟩ := adopts hl hc ch (is.length - m) m (by omega) (fun j g1 g2 => by
      cases hbj : bd.contains j with
      | false => rfl
      | true => have := hb j hbj (all j (by omega)); omega) (fun j g1 g2 _ => all j (by omega)) hM
    rw [show m + (is.length - m) = is.length by omega] at hM'
    obtain ⟨hs, hE, h1, h2, h3, _, _⟩ := hM'
    refine hk K' s' a w hs hE hi.defers ?_ (fun p => by rw [h3, hl])
    intro t
    by_cases hw : ∃ (j : Nat) (y : AIns), is[j]? = some y ∧ y.dst = some t
    · obtain ⟨j, y, hy, hd⟩ := hw
      have hjl : j < is.length := (List.getElem?_eq_some_iff.1 hy).1
      rw [h1 j y t hy (all j (by omega)) (fun _ => hjl) hd]
      have := ch.lk_same t (ops.size - (j + 1)) (j + 1) (by omega) (fun k z hk1 _ hz e => hc.dst j k y z t (by omega) hy hz hd e)
      rw [show j + 1 + (ops.size - (j + 1)) = ops.size by omega] at this
      exact this.symm
    · rw [h2 t (fun j y hy _ e => hw ⟨j, y, hy, e⟩)]
      have := ch.lk_same t ops.size 0 (by omega) (fun k z _ _ hz e => hw ⟨k, z, hz, e⟩)
      simpa using this.symm
  intro fuel
  induction fuel with
  | zero =>
    intro L a w hi hcnt
    have hr : Region.ready .any ops L = [] := by
      unfold Region.ready
      rw [List.filter_eq_nil_iff]
      intro j hj
      have := List.countP_eq_zero.1 (Nat.le_zero.1 hcnt) j hj
      simp only [Bool.not_eq_true] at this
      rw [this]
      simp
    exact ⟨hr, fin L a w hi hr⟩
  | succ fuel ih =>
    intro L a w hi hcnt
    refine ⟨fun hr => fin L a w hi hr, ?_⟩
    intro i hir
    unfold Region.ready at hir
    rw [List.mem_filter] at hir
    obtain ⟨hir1, hir2⟩ := hir
    have hilt : i < ops.size := by simpa using hir1
    have hil : i < L.size := by rw [hi.size]; exact hilt
    have ho : ops[i]? = some ops[i] := by simp [hilt]
    simp only [Bool.and_eq_true, Bool.not_eq_true', ho, Option.map_some, Option.getD_some] at hir2
    have hLi : L[i]? = some false := by
      have := hir2.1
      simp only [Array.getD_eq_getD_getElem?, Array.getElem?_eq_getElem hil, Option.getD_some] at this
      simp [hil, this]
    have hready : ∀ o : Oper, ops[i]? = some o → ∀ e ∈ o.after, bindsAny e = true → L[e.on]? = some true := by
      intro o ho' e he hb
      rw [ho] at ho'; injection ho' with ho'; subst ho'
      have := (Array.all_eq_true_iff_forall_mem.1 hir2.2) e he
      have hb' : Region.binds .any e = true := hb
      rw [hb'] at this
      simp only [Bool.not_true, Bool.false_or] at this
      cases hL2 : L[e.on]? with
      | none => simp [Array.getD_eq_getD_getElem?, hL2] at this
      | some b => simp [Array.getD_eq_getD_getElem?, hL2] at this; rw [this]
    obtain ⟨x, c, hx, hxtr⟩ := htr i _ ho
    obtain ⟨K1, s1, m, vf, bf, hm, hb, hM1⟩ := hi.st
    have hcnt' : (List.range ops.size).countP (fun j => !(L.setIfInBounds i true).getD j true) ≤ fuel := by
      have hlt := countP_lt (p := fun j => !L.getD j true) (q := fun j => !(L.setIfInBounds i true).getD j true) (l := List.range ops.size) (fun j hj => by
        by_cases e : i = j
        · subst e; simp [Array.getD_eq_getD_getElem?, hil] at hj
        · simpa [Array.getD_eq_getD_getElem?, Array.getElem?_setIfInBounds_ne e] using hj) (i := i) hir1 (by simpa using hir2.1) (by simp [Array.getD_eq_getD_getElem?, hil])
      omega
    have hilen : i < is.length := by omega
    have ltd : ∀ j, L[j]? = some true → j < ops.size := fun j hj => by have := (Array.getElem?_eq_some_iff.1 hj).1; rw [hi.size] at this; exact this
    have notI : L[i]? ≠ some true := by rw [hLi]; simp
    have ancDone : ∀ j, j ∈ anc.getD i [] → L[j]? = some true := fun j hj => anc_done hc hi.closed hi.size i hready j hj hilt
    have ancOf : ∀ j k, L[k]? = some true → j ∈ anc.getD k [] → L[j]? = some true := fun j k hk hj => anc_done hc hi.closed hi.size k (fun o ho e he hb => hi.closed k o ho hk e he hb) j hj (ltd k hk)
    have ordB : ∀ j k, j < k → k < ops.size → (bd.contains j = true ∨ bd.contains (j + 7000000) = true) → bd.contains k = true → j ∈ anc.getD k [] := by
      intro j k g1 g2 g3 g4
      refine hc.ord j k (is[j]'(by omega)) (is[k]'(by omega)) g1 (by simp) (by simp) ?_
      unfold clash
      rcases g3 with g3 | g3 <;> simp only [g3, g4, Bool.and_self, Bool.or_true, Bool.true_or, Bool.and_true]
    -- one that keeps its turn finds all that stands ahead of it
    obtain ⟨K, s, q, hM, hmq, hqb, hqm⟩ : ∃ K s q, MidL N is bd S Pl K0 w0 L a w q K s vf bf ∧ (bd.contains i = true → i = q) ∧ (bd.contains i = false → q = m) ∧ (bd.contains i = true ∨ bd.contains (i + 7000000) = true → m ≤ i) := by
      have hmi : bd.contains i = true ∨ bd.contains (i + 7000000) = true → m ≤ i := by
        intro hbi
        rcases hm with rfl | ⟨b, rfl, g1, g2⟩
        · omega
        · rcases Nat.lt_trichotomy i b with h | h | h
          · exact absurd (ancOf i b g2 (ordB i b h (ltd b g2) hbi g1)) notI
          · subst h; exact absurd g2 notI
          · omega
      cases hbi : bd.contains i with
      | false => exact ⟨K1, s1, m, hM1, (fun h => by cases h), (fun _ => rfl), fun h => hmi (by rw [hbi]; exact h)⟩
      | true =>
        have := hmi (.inl hbi)
        obtain ⟨K', s', hM'⟩ := adopts hl hc ch (i - m) m (by omega) (fun j g1 g2 => by
          cases hbj : bd.contains j with
          | false => rfl
          | true => have := hb j hbj (ancDone j (ordB j i (by omega) hilt (.inl hbj) hbi)); omega) (fun j g1 g2 g3 => ancDone j (ordB j i (by omega) hilt (.inr g3) hbi)) hM1
        rw [show m + (i - m) = i by omega] at hM'
        exact ⟨K', s', i, hM', (fun _ => rfl), (fun h => by cases h), fun _ => this⟩
    have hs := hM.1
    have h3 := hM.2.2.2.2.1
    have hturn := at_turnL hl hc ch hi.size hi.closed hx hLi hready (q := q) (fun h => by rw [← hmq h]; exact Nat.le_refl _) hM.2.2.1 hM.2.2.2.1
    obtain ⟨w1, w2, w3, w4, w5, w6, w7⟩ := wanted_of hxtr hs
    have hstep := ch.step i x hx
    have hev : ∀ y ∈ opds x.op, ev s.ρ y = ev (S i).ρ y := by
      intro y hy
      cases y with
      | t n => exact hturn n (reads_mem hy)
      | c v => rfl
    have hclosed : ∀ (j : Nat) (o : Oper), ops[j]? = some o → (L.setIfInBounds i true)[j]? = some true → ∀ e ∈ o.after, bindsAny e = true → (L.setIfInBounds i true)[e.on]? = some true := by
      intro j o' ho' hj e he hbe
      rw [set_iff hi.size hilt] at hj ⊢
      rcases hj with rfl | hj
      · exact .inr (hready o' ho' e he hbe)
      · exact .inr (hi.closed j o' ho' hj e he hbe)
    -- one that keeps its turn
    have bnext : bd.contains i = true → bd.contains (i + 7000000) = false → ∀ {K' : Kr} {s' : St} {a' : Act} {w' : World}, SRel N K' s' a' w' → Evo K s.σ w K' s'.σ w' → a'.defers = a.defers → (∀ d, x.dst ≠ some d → a'.tmps[d]? = a.tmps[d]?) → (∀ t, lk s'.ρ t = if x.dst = some t then lk (S (i + 1)).ρ t else lk s.ρ t) → (∀ p, lk s'.σ p = lk (S (i + 1)).σ p) →
        DInvL N ops is bd S Pl K0 w0 df (L.setIfInBounds i true) a' w' := by
      intro hbi hnl K' s' a' w' g1 g2 g3 g3' g4 g5
      have e := hmq hbi
      refine ⟨by simp [hi.size], hclosed, g3.trans hi.defers, K', s', i + 1, vf, bf, .inr ⟨i, rfl, hbi, by simp [hi.size, hilt]⟩, ?_, hM.step hc hi.size hx hilt hLi hnl g1 g2 g4 g5 (by omega) (fun j k1 k2 k3 => ?_) g3'⟩
      · intro j hj hLj
        rw [set_iff hi.size hilt] at hLj
        rcases hLj with rfl | hLj
        · omega
        · rcases Nat.lt_or_ge i j with h | h
          · exact absurd (ancOf i j hLj (ordB i j h (ltd j hLj) (.inl hbi) hj)) notI
          · omega
      · have : j ≠ i := by rintro rfl; exact notI k1
        omega
    -- one that turns no place
    have rnext : bd.contains i = false → bd.contains (i + 7000000) = false → ∀ {K' : Kr} {s' : St} {a' : Act} {w' : World}, SRel N K' s' a' w' → Evo K s.σ w K' s'.σ w' → a'.defers = a.defers → (∀ d, x.dst ≠ some d → a'.tmps[d]? = a.tmps[d]?) → (∀ t, lk s'.ρ t = if x.dst = some t then lk (S (i + 1)).ρ t else lk s.ρ t) → s'.σ = s.σ →
        DInvL N ops is bd S Pl K0 w0 df (L.setIfInBounds i true) a' w' := by
      intro hbi hnl K' s' a' w' g1 g2 g3 g3' g4 g5
      have e := hqb hbi
      refine ⟨by simp [hi.size], hclosed, g3.trans hi.defers, K', s', q, vf, bf, ?_, ?_, hM.step hc hi.size hx hilt hLi hnl g1 g2 g4 (fun p => by rw [g5]; exact h3 p) (Nat.le_refl _) (fun j _ _ k3 => k3) g3'⟩
      · rw [e]
        rcases hm with e' | ⟨b, e', g6, g7⟩
        · exact .inl e'
        · refine .inr ⟨b, e', g6, ?_⟩
          rw [set_iff hi.size hilt]; exact .inr g7
      · intro j hj hLj
        rw [set_iff hi.size hilt] at hLj
        rw [e]
        rcases hLj with rfl | hLj
        · rw [hbi] at hj; cases hj
        · exact hb j hj hLj
    have hXi : bd.contains i = false → bd.contains (i + 1000000) = true → ∀ p ∈ X, lk s.σ p = lk (S i).σ p := by
      intro hbi hri p hp
      have e := hqb hbi
      rw [h3, e]
      rcases Nat.le_total m i with hmi | hmi
      · have := ch.Xs hp (i - m) m (by omega) fun j g1 g2 hbj => by
          cases hlt : bd.contains (j + 2000000) with
          | false => rfl
          | true =>
            have := anc_below hc j (by omega) i (hc.ex i j hilt (by omega) hbj hlt hri)
            omega
        rw [show m + (i - m) = i by omega] at this
        exact this.symm
      · rcases hm with rfl | ⟨b, rfl, g1, g2⟩
        · obtain rfl : i = 0 := by omega
          rfl
        · have hbl := ltd b g2
          have hbi' : i ≠ b := by rintro rfl; rw [hbi] at g1; cases g1
          have := ch.Xs hp (b + 1 - i) i (by omega) fun j g3 g4 hbj => by
            cases hlt : bd.contains (j + 2000000) with
            | false => rfl
            | true =>
              have hLj : L[j]? = some true := by
                rcases Nat.lt_or_ge j b with h | h
                · exact ancOf j b g2 (ordB j b h hbl (.inl hbj) g1)
                · obtain rfl : j = b := by omega
                  exact g2
              exact absurd (ancOf i j hLj (hc.ex i j hilt (by omega) hbj hlt hri)) notI
          rw [show i + (b + 1 - i) = b + 1 by omega] at this
          exact this
    have go : bd.contains (i + 7000000) = false → DOneL P bd X Pl i x (S i) (S (i + 1)) →
        ops[i].wp P a w (wpAny P .any ops Q fuel (L.setIfInBounds i true)) Q := by
      intro hnl h
      rcases h with ⟨⟨hbi, _⟩, r, hf, e⟩ | ⟨hbi, r, σ', hbs, hlate, e⟩
      · obtain ⟨R, hst, hR⟩ : ∃ R, Step P s x.op R ∧ ∀ r' σ', R r' σ' → r' = r ∧ σ' = s.σ := by
          rcases hf with hf | ⟨hri, hf⟩
          · exact hf.step s hev
          · have h5 := hf s.σ (hXi hbi hri)
            exact ⟨_, .op x.op r s.σ (by rw [aop_congr hev]; exact h5), fun r' σ' hr => hr⟩
        refine Oper.wp_mono ?_ (hst.wp (N := N) w3 w4 K a w Q hs)
        rintro a1 w1' ⟨r', σ', K', u, rfl, hr', g1, g2, g3⟩
        obtain ⟨rfl, rfl⟩ := hR r' σ' hr'
        have hs1 := TRel.put hs g3.le g2 g1 w2
        refine ih _ _ _ (rnext hbi hnl hs1 (by rw [St.put_σ]; exact g3) (put_defers _ _ _) (fun d hd => put_other _ _ (by rw [← w1]; exact hd)) ?_ (by rw [St.put_σ])) hcnt'
        intro t
        rw [lk_put, w1]
        by_cases e' : ops[i].dst = some t
        · rw [if_pos e', if_pos e', e, lk_put, if_pos (w1.trans e')]
        · rw [if_neg e', if_neg e']
      · have hcur : ∀ p, lk s.σ p = lk (S i).σ p := fun p => by rw [h3, ← hmq hbi]
        have hs0 : SRel N K { s with σ := (S i).σ } a w := ⟨hs.size, hs.tmps, hs.slots.congr fun p => (hcur p).symm⟩
        obtain ⟨R, hst, hR⟩ := hbs.step { s with σ := (S i).σ } hev rfl
        refine Oper.wp_mono ?_ (hst.wp (N := N) w3 w4 K a w Q hs0)
        rintro a1 w1' ⟨r', σ'', K', u, rfl, hr', g1, g2, g3⟩
        obtain ⟨rfl, rfl⟩ := hR r' σ'' hr'
        have hs1 := TRel.put hs0 g3.le g2 g1 w2
        have g3' : Evo K s.σ w K' σ'' w1' := ((Evo.refl K s.σ w).congr (σ'' := (S i).σ) fun p => (hcur p).symm).trans g3
        refine ih _ _ _ (bnext hbi hnl hs1 (by rw [St.put_σ]; exact g3') (put_defers _ _ _) (fun d hd => put_other _ _ (by rw [← w1]; exact hd)) ?_ ?_) hcnt'
        · intro t
          rw [lk_put, w1]
          by_cases e' : ops[i].dst = some t
          · rw [if_pos e', if_pos e', e, lk_put, if_pos (w1.trans e')]
          · rw [if_neg e', if_neg e']
        · intro p; rw [St.put_σ, e, St.put_σ]
    show wpOp P ops Q i _ a w
    unfold wpOp
    rw [ho]
    simp only
    rcases hstep with ⟨hbi, hli, hg, d, r, it, hd, hX, hn, hlo, e⟩ | ⟨hnl, hstep⟩
    · rw [w5 hg, if_pos rfl]
      refine .inl ?_
      have eo : ops[i].dst = some d := w1.symm.trans hd
      have hlo' := hlo s.σ (fun h => hXi hbi h)
      rw [← lateOf_ρ hev] at hlo'
      obtain ⟨wn, v, b, hrun, gr, hb1, hb2, hown, hir, htr'⟩ := late_ok (N := N) w3 hlo' K a w hs
      unfold Oper.wp
      rw [hrun]
      show wpAny P .any ops Q fuel (L.setIfInBounds i true) (a.put ops[i].dst v) wn
      rw [eo]
      have em := hqb hbi
      have hmi := hqm (.inr hli)
      refine ih _ _ _ ⟨by simp [hi.size], hclosed, (put_defers _ _ _).trans hi.defers, K, { s with ρ := del d s.ρ }, q, _, _, ?_, ?_, hM.mk hl hc ch hi.size hx hilt hLi hli (by omega) hd (w2 d eo) gr hb1 hb2 hown hir htr' e⟩ hcnt'
      · rw [em]
        rcases hm with e' | ⟨b', e', g6, g7⟩
        · exact .inl e'
        · refine .inr ⟨b', e', g6, ?_⟩
          rw [set_iff hi.size hilt]; exact .inr g7
      · intro j hj hLj
        rw [set_iff hi.size hilt] at hLj
        rw [em]
        rcases hLj with rfl | hLj
        · rw [hbi] at hj; cases hj
        · exact hb j hj hLj
    cases hg : x.guard with
    | none =>
      rw [hg] at hstep
      rw [w5 hg, if_pos rfl]
      exact .inl (go hnl hstep)
    | some tw =>
      obtain ⟨t, want⟩ := tw
      rw [hg] at hstep
      -- where it is left out
      have skip : Region.wanted ops[i] (yielded ops a.tmps) = false → S (i + 1) = (S i).put x.dst .dead → (if Region.wanted ops[i] (yielded ops a.tmps) then ops[i].wp P a w (wpAny P .any ops Q fuel (L.setIfInBounds i true)) Q ∨ (ops[i].asks P a w ∧ LetsOut Q) else wpAny P .any ops Q fuel (L.setIfInBounds i true) (a.put ops[i].dst undef) w) := by
        intro hw e
        rw [hw, if_neg (by simp)]
        have hs1 := TRel.put hs (Kr.Le.refl _ _) hs.slots TRel.dead w2
        have hlk : ∀ t', lk (s.put ops[i].dst .dead).ρ t' = if x.dst = some t' then lk (S (i + 1)).ρ t' else lk s.ρ t' := by
          intro t'
          rw [lk_put, w1]
          by_cases e' : ops[i].dst = some t'
          · rw [if_pos e', if_pos e', e, lk_put, if_pos (w1.trans e')]
          · rw [if_neg e', if_neg e']
        cases hbi : bd.contains i with
        | false =>
          exact ih _ _ _ (rnext hbi hnl hs1 (by rw [St.put_σ]; exact Evo.refl _ _ _) (put_defers _ _ _) (fun d hd => put_other _ _ (by rw [← w1]; exact hd)) hlk (by rw [St.put_σ])) hcnt'
        | true =>
          have hcur : ∀ p, lk s.σ p = lk (S i).σ p := fun p => by rw [h3, ← hmq hbi]
          refine ih _ _ _ (bnext hbi hnl hs1 (by rw [St.put_σ]; exact Evo.refl _ _ _) (put_defers _ _ _) (fun d hd => put_other _ _ (by rw [← w1]; exact hd)) hlk ?_) hcnt'
          intro p; rw [St.put_σ, e, St.put_σ]; exact hcur p
      rcases hstep with ⟨hb', e⟩ | ⟨b, hb', h5, h6⟩
      · have hbs : lk s.ρ t = some .dead := by rw [hturn t (guard_mem hg)]; exact hb'
        exact skip (w7 t want hg hbs) e
      have hbs : lk s.ρ t = some (.iv (.bool b)) := by rw [hturn t (guard_mem hg)]; exact hb'
      have hwb := w6 t want b hg hbs
      by_cases hbw : b = want
      · rw [hwb, if_pos (by simpa using hbw)]
        exact .inl (go hnl (h5 hbw))
      · exact skip (by rw [hwb]; simpa using hbw) (h6 hbw)
end
end Go.Proofs.YtdlgenppdgkacaaGreatDoor.Ag
