/- Lists given up for good ('sealed'); values built of parts. -/
import Derived.Test.YtdlgenppdgkacaaGreatDoorAg7
import Derived.Great.FillDense
set_option linter.unusedVariables false
set_option linter.unusedSimpArgs false
namespace Go.Proofs.YtdlgenppdgkacaaGreatDoor.Ag
open Go.RowKit (Below)

theorem flat_len : ∀ {xs : List IV} {sz : Nat}, (∀ x ∈ xs, x.cells.length = sz) → (flat xs).length = xs.length * sz
  | [], sz, _ => by simp [flat]
  | x :: xs, sz, h => by
    have ih := flat_len (xs := xs) (sz := sz) (fun y hy => h y (by simp [hy]))
    have h1 := h x (by simp)
    simp only [flat, List.flatMap_cons, List.length_append] at ih ⊢
    rw [ih, h1, List.length_cons, Nat.add_mul]; omega

/-- A list's place is sealed: nobody writes it any more. -/
theorem SlotsRel.shut {K : Kr} {σ : Slots} {w : World} (h : SlotsRel K σ w) {k n e sz : Nat} {xs : List IV} (hk : lk σ k = some (n, .list e sz xs)) :
    ∃ K', SlotsRel K' (upd σ k (n, .froz xs)) w ∧ Evo K σ w K' (upd σ k (n, .froz xs)) w ∧ Rel K'.I w (.slice xs) (K.A k n) ∧ K'.A = K.A ∧ K'.V = K.V := by
  obtain ⟨hV, cvs, how, hss, hr⟩ := h.rel k n _ hk
  have hown : ∀ b, (K.A k n).ownBlock = some b → Owned K σ b := fun b hb => ⟨k, n, _, hk, hb⟩
  let K' : Kr := { K with I := fun b => K.I b ∨ (K.A k n).ownBlock = some b }
  have le : K.Le w K' w := ⟨⟨fun b hb => .inl hb, fun _ _ => rfl⟩, fun k => ⟨Nat.le_refl _, fun _ _ => rfl⟩⟩
  have hrel : Rel K'.I w (.slice xs) (K.A k n) := by
    rcases how.2 with ⟨h1, h2⟩ | ⟨g, cap, cur, h1, _, hh, hle, _, hcs, htake⟩
    · rw [h1]
      have : xs = [] := List.eq_nil_of_length_eq_zero h2
      subst this
      exact .empty none 0
    · have hb : (K.A k n).ownBlock = some g := by rw [h1]; rfl
      have hI : K'.I g := .inr hb
      rw [h1]
      refine .slice xs g 0 cap sz (fun q => cvs.getD q undef) hle (fun x hx => (hss x hx).1) hI ?_ ?_ ?_
      · intro q c hq
        have hql : q < xs.length * sz := by have := (List.getElem?_eq_some_iff.1 hq).1; rwa [flat_len (fun x hx => (hss x hx).1)] at this
        have hcl : q < cvs.length := by rw [how.1]; exact hql
        have hcur : cur.toList[q]? = some (cvs.getD q undef) := by
          have : cvs[q]? = some (cvs.getD q undef) := by simp [List.getD, hcl]
          rw [← this, ← htake, List.getElem?_take_of_lt hql]
        simp only [Array.getElem?_toList] at hcur
        simp only [World.cell?, hh, Nat.zero_add]
        simpa using hcur
      · intro q c hq
        obtain ⟨x, hx, hc⟩ := List.mem_flatMap.1 (List.mem_of_getElem? hq)
        exact (hss x hx).2 c hc
      · intro q c hq
        have hql : q < xs.length * sz := by have := (List.getElem?_eq_some_iff.1 hq).1; rwa [flat_len (fun x hx => (hss x hx).1)] at this
        have hcl : q < cvs.length := by rw [how.1]; exact hql
        exact (hr q c _ hq (by simp [List.getD, hcl])).stays le.1
  have back : ∀ k' n' it1, lk (upd σ k (n, Item.froz xs)) k' = some (n', it1) → ∀ b, own it1 (K.A k' n') = some b → k' ≠ k ∧ lk σ k' = some (n', it1) := by
    intro k' n' it1 hl b hb
    rw [lk_upd] at hl
    split at hl
    · rename_i e; subst e
      simp only [Option.some.injEq, Prod.mk.injEq] at hl
      obtain ⟨rfl, rfl⟩ := hl
      simp [own] at hb
    · rename_i e; exact ⟨Ne.symm e, hl⟩
  have hOwn : ∀ b, Owned K' (upd σ k (n, .froz xs)) b → Owned K σ b ∧ (K.A k n).ownBlock ≠ some b := by
    rintro b ⟨k', n', it1, hl, ho⟩
    obtain ⟨h1, h2⟩ := back k' n' it1 hl b ho
    exact ⟨⟨k', n', it1, h2, ho⟩, fun e => h1 (h.apart k' k n' n it1 _ b h2 hk ho e)⟩
  refine ⟨K', ⟨?_, ?_, ?_, ?_, ?_⟩, ⟨le, rfl, rfl, rfl, Nat.le_refl _, fun _ _ _ => rfl, ?_, fun b hb => .inl (hOwn b hb).1⟩, hrel, rfl, rfl⟩
  · intro k' n' it1 hl
    rw [lk_upd] at hl
    split at hl
    · rename_i e; subst e
      simp only [Option.some.injEq, Prod.mk.injEq] at hl
      obtain ⟨rfl, rfl⟩ := hl
      exact ⟨hV, hrel⟩
    · obtain ⟨h1, h2⟩ := h.rel k' n' it1 hl
      exact ⟨h1, h2.mono le fun _ _ => rfl⟩
  · intro k' hl
    rw [lk_upd] at hl
    split at hl
    · cases hl
    · exact h.free k' hl
  · intro k1 k2 n1 n2 it1 it2 b h1 h2 o1 o2
    exact h.apart k1 k2 n1 n2 it1 it2 b (back k1 n1 it1 h1 b o1).2 (back k2 n2 it2 h2 b o2).2 o1 o2
  · intro b hb
    obtain ⟨h1, h2⟩ := hOwn b hb
    refine ⟨?_, (h.imm b h1).2⟩
    rintro (h3 | h3)
    · exact (h.imm b h1).1 h3
    · exact h2 h3
  · rintro b (h3 | h3)
    · exact h.old b h3
    · exact (h.imm b (hown b h3)).2
  · rintro b (h3 | h3)
    · exact .inl h3
    · exact .inr (.inl (hown b h3))

/-- nil is told as an empty slice, in an aggregate and in a tuple too. -/
def nrm0 : IV → IV
  | .nil => .slice []
  | x => x
def nrm1 : IV → IV
  | .nil => .slice []
  | .agg cs => .agg (cs.map nrm0)
  | x => x
def nrm : IV → IV
  | .nil => .slice []
  | .agg cs => .agg (cs.map nrm0)
  | .tup xs => .tup (xs.map nrm1)
  | x => x
theorem nrm0_rel {I : Nat → Prop} {w : World} {x : IV} {v : Value} (h : Rel I w x v) : Rel I w (nrm0 x) v := by
  unfold nrm0; split
  · exact h.weakNil
  · exact h
theorem nrm0_one {x : IV} (h : x.one = true) : (nrm0 x).one = true := by
  unfold nrm0; split
  · rfl
  · exact h
theorem nrm_agg {I : Nat → Prop} {w : World} {cs : List IV} {v : Value} (h : Rel I w (.agg cs) v) : Rel I w (.agg (cs.map nrm0)) v := by
  cases h with
  | agg _ vs hn ho hr =>
    refine .agg _ vs (by simpa using hn) ?_ ?_
    · intro c hc
      obtain ⟨y, hy, rfl⟩ := List.mem_map.1 hc
      exact nrm0_one (ho y hy)
    · intro q c v hc hv
      simp only [List.getElem?_map, Option.map_eq_some_iff] at hc
      obtain ⟨y, hy, rfl⟩ := hc
      exact nrm0_rel (hr q y v hy hv)
theorem nrm1_rel {I : Nat → Prop} {w : World} {x : IV} {v : Value} (h : Rel I w x v) : Rel I w (nrm1 x) v := by
  unfold nrm1; split
  · exact h.weakNil
  · exact nrm_agg h
  · exact h
theorem nrm_rel {I : Nat → Prop} {w : World} {x : IV} {v : Value} (h : Rel I w x v) : Rel I w (nrm x) v := by
  unfold nrm; split
  · exact h.weakNil
  · exact nrm_agg h
  · cases h with
    | tup _ vs hn hr =>
      refine .tup _ vs (by simpa using hn) ?_
      intro q c v hc hv
      simp only [List.getElem?_map, Option.map_eq_some_iff] at hc
      obtain ⟨y, hy, rfl⟩ := hc
      exact nrm1_rel (hr q y v hy hv)
  · exact h

/-- Cells, so many together. -/
def groupC (z : Nat) : Nat → List IV → List IV
  | 0, _ => []
  | m + 1, cs => (if z = 1 then cs.headD .nil else .agg (cs.take z)) :: groupC z m (cs.drop z)
theorem groupC_len (z : Nat) : ∀ (m : Nat) (cs : List IV), (groupC z m cs).length = m
  | 0, _ => rfl
  | m + 1, cs => by simp [groupC, groupC_len z m]
theorem groupC_is {z : Nat} (h0 : 0 < z) : ∀ {m : Nat} {cs : List IV}, cs.length = m * z → (∀ c ∈ cs, c.one = true) → flat (groupC z m cs) = cs ∧ ∀ x ∈ groupC z m cs, x.cells.length = z ∧ ∀ c ∈ x.cells, c.one = true
  | 0, cs, hl, _ => by
    have : cs = [] := List.eq_nil_of_length_eq_zero (by simpa using hl)
    subst this
    exact ⟨rfl, fun x hx => by simp [groupC] at hx⟩
  | m + 1, cs, hl, ho => by
    have hz : z ≤ cs.length := by rw [hl, Nat.add_mul]; omega
    obtain ⟨h1, h2⟩ := groupC_is h0 (m := m) (cs := cs.drop z) (by rw [List.length_drop, hl, Nat.add_mul]; omega) (fun c hc => ho c (List.mem_of_mem_drop hc))
    have hx : ∃ x, groupC z (m + 1) cs = x :: groupC z m (cs.drop z) ∧ x.cells = cs.take z := by
      refine ⟨_, rfl, ?_⟩
      split
      · rename_i e; subst e
        match cs, hz, ho with
        | c :: cs, _, ho =>
          have := ho c (by simp)
          simp only [List.headD_cons, List.take_succ_cons, List.take_zero]
          cases c <;> first | rfl | simp [IV.one] at this
      · rfl
    obtain ⟨x, hx1, hx2⟩ := hx
    rw [hx1]
    refine ⟨?_, ?_⟩
    · simp only [flat, List.flatMap_cons, hx2] at h1 ⊢
      rw [h1, List.take_append_drop]
    · intro y hy
      rcases List.mem_cons.1 hy with rfl | hy
      · exact ⟨by rw [hx2]; simp; omega, fun c hc => ho c (by rw [hx2] at hc; exact List.mem_of_mem_take hc)⟩
      · exact h2 y hy
/-- A list whose cells are nobody's is one of values. -/
theorem IRel.tl_list {K : Kr} {w : World} {v : Value} {e z : Nat} {cs : List TV} {ys : List IV} (h : IRel K w (.tl e z cs) v) (hy : ivsOf cs = some ys) : IRel K w (.list e z (groupC z (ys.length / z) ys)) v := by
  have hcs := ivsOf_rel (K := K) (w := w) hy
  subst hcs
  obtain ⟨m, cvs, h0, hl, how, hr⟩ := h
  have hl' : ys.length = m * z := by simpa using hl
  have hm : ys.length / z = m := by rw [hl']; exact Nat.mul_div_cancel m h0
  have hone : ∀ x ∈ ys, x.one = true := by
    intro x hx
    obtain ⟨q, hq⟩ := List.getElem?_of_mem hx
    have hql : q < ys.length := (List.getElem?_eq_some_iff.1 hq).1
    have hcl : q < cvs.length := by rw [how.1]; omega
    have := hr q (.iv x) cvs[q] (by simp [hq]) (by simp [hcl])
    cases this.1 with
    | iv _ _ h9 => exact one_of_rel h9 this.2
  rw [hm]
  obtain ⟨g1, g2⟩ := groupC_is h0 hl' hone
  refine ⟨cvs, by rw [groupC_len]; exact how, g2, ?_⟩
  intro q c u hq hu
  rw [g1] at hq
  have := (hr q (.iv c) u (by simp [hq]) hu).1
  cases this with
  | iv _ _ h9 => exact h9
theorem ivsOf_map : ∀ ys : List IV, ivsOf (ys.map TV.iv) = some ys
  | [] => rfl
  | y :: ys => by simp [ivsOf, ivsOf_map ys]
theorem SlotsRel.shutT {K : Kr} {σ : Slots} {w : World} (h : SlotsRel K σ w) {k n e z : Nat} {cs : List TV} {ys : List IV} (hk : lk σ k = some (n, .tl e z cs)) (hi : IRel K w (.tl e z (ys.map .iv)) (K.A k n)) :
    ∃ K', SlotsRel K' (upd σ k (n, .froz (groupC z (ys.length / z) ys))) w ∧ Evo K σ w K' (upd σ k (n, .froz (groupC z (ys.length / z) ys))) w ∧ Rel K'.I w (.slice (groupC z (ys.length / z) ys)) (K.A k n) := by
  obtain ⟨t1, t2⟩ := h.turn (w' := w) k n (.tl e z cs) (.list e z (groupC z (ys.length / z) ys)) hk none ⟨rfl, rfl, rfl, Nat.le_refl _, fun _ _ _ => rfl⟩ (fun b hb => by cases hb) (fun b hb => by cases hA : K.A k n <;> rw [hA] at hb <;> exact hb) (fun _ => hi.tl_list (ivsOf_map ys))
  obtain ⟨K', a1, a2, a3, _⟩ := t1.shut (k := k) (n := n) (e := e) (sz := z) (xs := groupC z (ys.length / z) ys) (by rw [lk_upd, if_pos rfl])
  have e1 : upd (upd σ k (n, .list e z (groupC z (ys.length / z) ys))) k (n, .froz (groupC z (ys.length / z) ys)) = upd σ k (n, .froz (groupC z (ys.length / z) ys)) := upd_upd _ _ _ _
  rw [e1] at a1 a2
  exact ⟨K', a1, t2.trans a2, a3⟩

/-- What is left of a sealing: places and blocks; the world is the same. -/
def Sealed (K : Kr) (σ : Slots) (w : World) (σ' : Slots) (Q : Kr → Prop) : Prop := ∃ K', SlotsRel K' σ' w ∧ Evo K σ w K' σ' w ∧ Q K'
/-- Places are kept, or sealed. -/
def Keeps (σ σ' : Slots) : Prop := ∀ k, lk σ' k = lk σ k ∨ ∃ n xs, lk σ' k = some (n, .froz xs)
theorem Keeps.refl (σ : Slots) : Keeps σ σ := fun _ => .inl rfl
theorem Keeps.trans {σ σ' σ'' : Slots} (h : Keeps σ σ') (k : Keeps σ' σ'') : Keeps σ σ'' := fun j => by
  rcases k j with h1 | h1
  · rw [h1]; exact h j
  · exact .inr h1
theorem Keeps.upd (σ : Slots) (k n : Nat) (xs : List IV) : Keeps σ (upd σ k (n, .froz xs)) := fun j => by
  rw [lk_upd]
  by_cases h : k = j
  · rw [if_pos h]; exact .inr ⟨n, xs, rfl⟩
  · rw [if_neg h]; exact .inl rfl
def mapShut (g : TV → Slots → Option (IV × Slots)) : List TV → Slots → Option (List IV × Slots)
  | [], σ => some ([], σ)
  | c :: cs, σ => match g c σ with
    | some (x, σ') => match mapShut g cs σ' with
      | some (xs, σ'') => some (x :: xs, σ'')
      | none => none
    | none => none
/-- A cell that is a list, with the lists in it. -/
def shutD : Nat → TV → Slots → Option (IV × Slots)
  | 0, _, _ => none
  | f + 1, .lst k n, σ => match lk σ k with
    | some (n', .list _ _ xs) => if n = n' then some (.slice xs, upd σ k (n, .froz xs)) else none
    | some (n', .froz xs) => if n = n' then some (.slice xs, σ) else none
    | some (n', .tl _ z cs) => if n = n' then match mapShut (shutD f) cs σ with
        | some (ys, σ1) => match lk σ1 k with
          | some (_, .tl _ _ _) => some (.slice (groupC z (ys.length / z) ys), upd σ1 k (n, .froz (groupC z (ys.length / z) ys)))
          | _ => none
        | none => none
      else none
    | _ => none
  | _ + 1, .iv x, σ => some (x, σ)
  | _, _, _ => none
theorem mapShut_ok {g : TV → Slots → Option (IV × Slots)} (hg : ∀ {t : TV} {σ σ' : Slots} {K : Kr} {w : World} {x : IV} {u : Value}, SlotsRel K σ w → TRel K w t u → g t σ = some (x, σ') → Sealed K σ w σ' (fun K' => Rel K'.I w x u) ∧ Keeps σ σ') :
    ∀ (cs : List TV) {σ σ' : Slots} {K : Kr} {w : World} {xs : List IV} {vs : List Value}, SlotsRel K σ w → vs.length = cs.length → (∀ (q : Nat) (c : TV) (v : Value), cs[q]? = some c → vs[q]? = some v → TRel K w c v) → mapShut g cs σ = some (xs, σ') →
      Sealed K σ w σ' (fun K' => xs.length = cs.length ∧ ∀ (q : Nat) (c : IV) (v : Value), xs[q]? = some c → vs[q]? = some v → Rel K'.I w c v) ∧ Keeps σ σ'
  | [], σ, σ', K, w, xs, vs, hs, hn, hr, h => by
    simp [mapShut] at h
    obtain ⟨rfl, rfl⟩ := h
    exact ⟨⟨K, hs, Evo.refl _ _ _, rfl, fun q c v hc => by simp at hc⟩, Keeps.refl _⟩
  | c :: cs, σ, σ', K, w, xs, v :: vs, hs, hn, hr, h => by
    simp only [mapShut] at h
    split at h
    · rename_i x σ1 h1
      split at h
      · rename_i ys σ2 h2
        simp at h
        obtain ⟨rfl, rfl⟩ := h
        obtain ⟨⟨K1, a1, a2, a3⟩, a4⟩ := hg hs (hr 0 c v rfl rfl) h1
        obtain ⟨⟨K2, b1, b2, b3, b4⟩, b5⟩ := mapShut_ok hg cs (vs := vs) a1 (by simpa using hn) (fun q c v hc hv => (hr (q + 1) c v (by simpa using hc) (by simpa using hv)).mono a2.le) h2
        refine ⟨⟨K2, b1, a2.trans b2, by simp [b3], ?_⟩, a4.trans b5⟩
        intro q c' v' hc hv
        cases q with
        | zero => simp at hc hv; subst hc; subst hv; exact a3.stays b2.le.1
        | succ q => exact b4 q c' v' (by simpa using hc) (by simpa using hv)
      · cases h
    · cases h
  | _ :: _, _, _, _, _, _, [], _, hn, _, _ => by simp at hn
theorem shutD_ok : ∀ (f : Nat) {t : TV} {σ σ' : Slots} {K : Kr} {w : World} {x : IV} {u : Value}, SlotsRel K σ w → TRel K w t u → shutD f t σ = some (x, σ') → Sealed K σ w σ' (fun K' => Rel K'.I w x u) ∧ Keeps σ σ'
  | 0, t, σ, σ', K, w, x, u, hs, hr, h => by simp [shutD] at h
  | f + 1, t, σ, σ', K, w, x, u, hs, hr, h => by
    cases t
    case iv y =>
      simp [shutD] at h
      obtain ⟨rfl, rfl⟩ := h
      cases hr with
      | iv _ _ hr => exact ⟨⟨K, hs, Evo.refl _ _ _, hr⟩, Keeps.refl _⟩
    case lst k n =>
      simp only [shutD] at h
      split at h
      · rename_i n' e sz xs hk
        split at h
        · rename_i hn; subst hn
          simp at h
          obtain ⟨rfl, rfl⟩ := h
          cases hr
          obtain ⟨K', h1, h2, h3, _⟩ := hs.shut hk
          exact ⟨⟨K', h1, h2, h3⟩, Keeps.upd _ _ _ _⟩
        · cases h
      · rename_i n' xs hk
        split at h
        · rename_i hn; subst hn
          simp at h
          obtain ⟨rfl, rfl⟩ := h
          cases hr
          exact ⟨⟨K, hs, Evo.refl _ _ _, (hs.rel k n _ hk).2⟩, Keeps.refl _⟩
        · cases h
      · rename_i n' e z cs hk
        split at h
        · rename_i hn; subst hn
          split at h
          · rename_i ys σ1 hm
            split at h
            · rename_i n2 e2 z2 cs2 hk2
              simp at h
              obtain ⟨rfl, rfl⟩ := h
              cases hr
              obtain ⟨m, cvs, h0, hl, how, hcr⟩ := (hs.rel k n _ hk).2
              obtain ⟨⟨K1, a1, a2, a3, a4⟩, a5⟩ := mapShut_ok (fun h1 h2 h3 => shutD_ok f h1 h2 h3) cs (vs := cvs) hs (by rw [how.1, hl]) (fun q c v hc hv => (hcr q c v hc hv).1) hm
              have hk1 : lk σ1 k = some (n, .tl e z cs) := by
                rcases a5 k with h7 | ⟨n7, xs7, h7⟩
                · rw [h7]; exact hk
                · rw [h7] at hk2; injection hk2 with hk2; injection hk2 with _ hk2; cases hk2
              have hA : K1.A k n = K.A k n := (a2.le.2 k).2 n (by rw [(hs.rel k n _ hk).1]; omega)
              have hi : IRel K1 w (.tl e z (ys.map .iv)) (K1.A k n) := by
                rw [hA]
                refine ⟨m, cvs, h0, by rw [List.length_map, a3, hl], how, ?_⟩
                intro q c v hc hv
                simp only [List.getElem?_map, Option.map_eq_some_iff] at hc
                obtain ⟨y, hy, rfl⟩ := hc
                have hql : q < cs.length := by have := (List.getElem?_eq_some_iff.1 hy).1; omega
                exact ⟨.iv _ _ (a4 q y v hy hv), (hcr q cs[q] v (by simp [hql]) hv).2⟩
              obtain ⟨K2, b1, b2, b3⟩ := a1.shutT hk1 hi
              rw [hA] at b3
              exact ⟨⟨K2, b1, a2.trans b2, b3⟩, a5.trans (Keeps.upd _ _ _ _)⟩
            · cases h
          · cases h
        · cases h
      · cases h
    all_goals (simp [shutD] at h)

mutual
/-- A slot's value as a value without memory; lists in it are sealed. -/
def shut : TV → Slots → Option (IV × Slots)
  | .iv x, σ => some (nrm x, σ)
  | .ifb true t, σ => shut t σ
  | .lst k n, σ => match lk σ k with
    | some (n', .list _ _ xs) => if n = n' then some (.slice xs, upd σ k (n, .froz xs)) else none
    | some (n', .froz xs) => if n = n' then some (.slice xs, σ) else none
    | some (n', .pre xs _) => if n = n' then some (.slice xs, σ) else none
    | some (_, .tl _ _ _) => shutD 8 (.lst k n) σ
    | _ => none
  | .agg cs, σ => match shutAll cs σ with
    | some (xs, σ') => some (.agg xs, σ')
    | none => none
  | .tup cs, σ => match shutAll cs σ with
    | some (xs, σ') => some (.tup xs, σ')
    | none => none
  | .fn f fs cs, σ => match shutAll fs σ with
    | some (xs, σ') => match shutAll cs σ' with
      | some (ys, σ'') => some (.fn f xs ys, σ'')
      | none => none
    | none => none
  | _, _ => none
def shutAll : List TV → Slots → Option (List IV × Slots)
  | [], σ => some ([], σ)
  | c :: cs, σ => match shut c σ with
    | some (x, σ') => match shutAll cs σ' with
      | some (xs, σ'') => some (x :: xs, σ'')
      | none => none
    | none => none
end

mutual
theorem shut_ok : ∀ (t : TV) {σ σ' : Slots} {K : Kr} {w : World} {x : IV} {u : Value}, SlotsRel K σ w → TRel K w t u → shut t σ = some (x, σ') → Sealed K σ w σ' (fun K' => Rel K'.I w x u)
  | .iv y, σ, σ', K, w, x, u, hs, hr, h => by
    simp [shut] at h
    obtain ⟨rfl, rfl⟩ := h
    cases hr with
    | iv _ _ hr => exact ⟨K, hs, Evo.refl _ _ _, nrm_rel hr⟩
  | .lst k n, σ, σ', K, w, x, u, hs, hr, h => by
    simp only [shut] at h
    split at h
    · rename_i n' e sz xs hk
      split at h
      · rename_i hn; subst hn
        simp at h
        obtain ⟨rfl, rfl⟩ := h
        cases hr
        obtain ⟨K', h1, h2, h3, _⟩ := hs.shut hk
        exact ⟨K', h1, h2, h3⟩
      · cases h
    · rename_i n' xs hk
      split at h
      · rename_i hn; subst hn
        simp at h
        obtain ⟨rfl, rfl⟩ := h
        cases hr
        exact ⟨K, hs, Evo.refl _ _ _, (hs.rel k n _ hk).2⟩
      · cases h
    · rename_i n' xs ys hk
      split at h
      · rename_i hn; subst hn
        simp at h
        obtain ⟨rfl, rfl⟩ := h
        cases hr
        obtain ⟨_, _, _, h2, _, _⟩ := (hs.rel k n _ hk).2
        exact ⟨K, hs, Evo.refl _ _ _, h2⟩
      · cases h
    · exact (shutD_ok 8 hs hr h).1
    · cases h
  | .agg cs, σ, σ', K, w, x, u, hs, hr, h => by
    simp only [shut] at h
    split at h
    · rename_i xs σ1 h1
      simp at h
      obtain ⟨rfl, rfl⟩ := h
      cases hr with
      | agg _ vs hn ho hr =>
        obtain ⟨K', h2, h3, h4, h5⟩ := shutAll_ok cs hs hn hr h1
        refine ⟨K', h2, h3, .agg xs vs (hn.trans h4.symm) ?_ h5⟩
        intro c hc
        obtain ⟨q, hq⟩ := List.getElem?_of_mem hc
        have hlt : q < vs.size := by have := (List.getElem?_eq_some_iff.1 hq).1; omega
        exact one_of_rel (h5 q c vs[q] hq (by simp [hlt])) (ho _ (Array.getElem_mem hlt))
    · cases h
  | .tup cs, σ, σ', K, w, x, u, hs, hr, h => by
    simp only [shut] at h
    split at h
    · rename_i xs σ1 h1
      simp at h
      obtain ⟨rfl, rfl⟩ := h
      cases hr with
      | tup _ vs hn hr =>
        obtain ⟨K', h2, h3, h4, h5⟩ := shutAll_ok cs hs hn hr h1
        exact ⟨K', h2, h3, .tup xs vs (hn.trans h4.symm) h5⟩
    · cases h
  | .fn f fs cs, σ, σ', K, w, x, u, hs, hr, h => by
    simp only [shut] at h
    split at h
    · rename_i xs σ1 h1
      split at h
      · rename_i ys σ2 h2
        simp at h
        obtain ⟨rfl, rfl⟩ := h
        cases hr with
        | fn _ _ _ vf vc hf hc hrf hrc =>
          obtain ⟨K1, a1, a2, a3, a4⟩ := shutAll_ok fs hs hf hrf h1
          obtain ⟨K2, b1, b2, b3, b4⟩ := shutAll_ok cs a1 hc (fun q c v hc hv => (hrc q c v hc hv).mono a2.le) h2
          refine ⟨K2, b1, a2.trans b2, .fn f xs ys vf vc (hf.trans a3.symm) (hc.trans b3.symm) ?_ b4⟩
          exact fun q c v hc hv => (a4 q c v hc hv).stays b2.le.1
      · cases h
    · cases h
  | .loc _ _ _, σ, σ', K, w, x, u, hs, hr, h => by simp [shut] at h
  | .el _ _ _ _ _, σ, σ', K, w, x, u, hs, hr, h => by simp [shut] at h
  | .mp _ _, σ, σ', K, w, x, u, hs, hr, h => by simp [shut] at h
  | .itr _ _, σ, σ', K, w, x, u, hs, hr, h => by simp [shut] at h
  | .sl _ _ _ _ _ _, σ, σ', K, w, x, u, hs, hr, h => by simp [shut] at h
  | .dead, σ, σ', K, w, x, u, hs, hr, h => by simp [shut] at h
  | .ifb true t, σ, σ', K, w, x, u, hs, hr, h => by
    simp only [shut] at h
    cases hr with
    | ifb _ _ _ h1 _ => exact shut_ok t hs (h1 rfl) h
  | .ifb false t, σ, σ', K, w, x, u, hs, hr, h => by simp [shut] at h
theorem shutAll_ok : ∀ (cs : List TV) {σ σ' : Slots} {K : Kr} {w : World} {xs : List IV} {vs : Array Value}, SlotsRel K σ w → vs.size = cs.length →
    (∀ (q : Nat) (c : TV) (v : Value), cs[q]? = some c → vs[q]? = some v → TRel K w c v) → shutAll cs σ = some (xs, σ') →
    Sealed K σ w σ' (fun K' => xs.length = cs.length ∧ ∀ (q : Nat) (c : IV) (v : Value), xs[q]? = some c → vs[q]? = some v → Rel K'.I w c v)
  | [], σ, σ', K, w, xs, vs, hs, hn, hr, h => by
    simp [shutAll] at h
    obtain ⟨rfl, rfl⟩ := h
    exact ⟨K, hs, Evo.refl _ _ _, rfl, fun q c v hc => by simp at hc⟩
  | c :: cs, σ, σ', K, w, xs, vs, hs, hn, hr, h => by
    simp only [shutAll] at h
    split at h
    · rename_i x σ1 h1
      split at h
      · rename_i ys σ2 h2
        simp at h
        obtain ⟨rfl, rfl⟩ := h
        have h0 : 0 < vs.size := by simp at hn; omega
        obtain ⟨K1, a1, a2, a3⟩ := shut_ok c hs (hr 0 c vs[0] rfl (by simp [h0])) h1
        have hn' : (vs.extract 1 vs.size).size = cs.length := by simp at hn ⊢; omega
        have ext : ∀ q, (vs.extract 1 vs.size)[q]? = vs[q + 1]? := by
          intro q
          rw [Array.getElem?_extract]
          split
          · rw [Nat.add_comm]
          · rename_i hq
            rw [Array.getElem?_eq_none (by omega)]
        obtain ⟨K2, b1, b2, b3, b4⟩ := shutAll_ok cs a1 hn' (fun q c v hc hv => by
          rw [ext] at hv
          exact (hr (q + 1) c v (by simpa using hc) hv).mono a2.le) h2
        refine ⟨K2, b1, a2.trans b2, by simp [b3], ?_⟩
        intro q c' v hc hv
        cases q with
        | zero =>
          simp at hc; subst hc
          have : vs[0] = v := by simpa [h0] using hv
          subst this
          exact a3.stays b2.le.1
        | succ q =>
          simp at hc
          exact b4 q c' v hc (by rw [ext]; exact hv)
      · cases h
    · cases h
end

end Go.Proofs.YtdlgenppdgkacaaGreatDoor.Ag
