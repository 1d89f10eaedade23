/- Regions that draw their order, of which one operation gives up: what stands behind it is not done, what has nothing to do with it may be. -/
import Derived.Test.YtdlgenppdgkacaaGreatDoorAgE
set_option linter.unusedVariables false
set_option linter.unusedSimpArgs false
set_option linter.unusedSectionVars false
namespace Go.Proofs.YtdlgenppdgkacaaGreatDoor.Ag
open Go.RowKit (Below)

/-- What stands behind the operation 'pi'. -/
inductive Blk (is : List AIns) (bd : List Nat) (pi : Nat) : Nat → Prop
  | bar (j : Nat) (h : pi ≤ j) (hb : bd.contains j = true) : Blk is bd pi j
  | dep (j k : Nat) (x y : AIns) (d : Nat) (h : Blk is bd pi k) (hk : k < j) (hx : is[k]? = some x) (hy : is[j]? = some y) (hd : x.dst = some d) (hr : d ∈ readsOf y) : Blk is bd pi j
def noIns (i : AIns) : AIns := ⟨i.dst, none, .mov (.c (.bool false))⟩
/-- The operations, those behind 'pi' left out. -/
def blkT (bd : List Nat) : Nat → List Nat → List AIns → List AIns
  | _, _, [] => []
  | k, bl, i :: is => if bd.contains k || (readsOf i).any (fun t => bl.contains t) then noIns i :: blkT bd (k + 1) ((match i.dst with | some d => [d] | none => []) ++ bl) is else i :: blkT bd (k + 1) bl is
theorem blkT_len {bd : List Nat} : ∀ (is : List AIns) (k : Nat) (bl : List Nat), (blkT bd k bl is).length = is.length
  | [], k, bl => rfl
  | i :: is, k, bl => by
    simp only [blkT]
    split <;> simp [blkT_len is]
theorem noIns_reads (i : AIns) : readsOf (noIns i) = [] := rfl
theorem blkT_spec {is : List AIns} {bd : List Nat} {pi : Nat} : ∀ (is0 : List AIns) (k : Nat) (bl : List Nat), pi ≤ k → (∀ j, is0[j]? = is[k + j]?) → (∀ d ∈ bl, ∃ j x, Blk is bd pi j ∧ j < k ∧ is[j]? = some x ∧ x.dst = some d) →
    ∀ (j : Nat) (x' : AIns), (blkT bd k bl is0)[j]? = some x' → ∃ x, is[k + j]? = some x ∧ x'.dst = x.dst ∧ (x' = x ∨ (Blk is bd pi (k + j) ∧ readsOf x' = []))
  | [], k, bl, _, _, _, j, x', h => by simp [blkT] at h
  | i :: is0, k, bl, hk, hi, hbl, j, x', h => by
    have h0 : is[k]? = some i := by have := hi 0; simpa using this.symm
    have hi' : ∀ j, is0[j]? = is[k + 1 + j]? := fun j => by
      have := hi (j + 1)
      rw [show k + 1 + j = k + (j + 1) by omega, ← this]; simp
    simp only [blkT] at h
    split at h
    · rename_i hb
      have hB : Blk is bd pi k := by
        simp only [Bool.or_eq_true, List.any_eq_true] at hb
        rcases hb with hb | ⟨t, ht, hb⟩
        · exact .bar k hk hb
        · obtain ⟨j0, x0, g1, g2, g3, g4⟩ := hbl t (List.contains_iff_mem.1 hb)
          exact .dep k j0 x0 i t g1 g2 g3 h0 g4 ht
      cases j with
      | zero =>
        simp at h; subst h
        exact ⟨i, by simpa using h0, rfl, .inr ⟨hB, rfl⟩⟩
      | succ j =>
        simp at h
        have := blkT_spec (pi := pi) is0 (k + 1) _ (by omega) hi' (fun d hd => by
          rw [List.mem_append] at hd
          rcases hd with hd | hd
          · cases hdi : i.dst with
            | none => rw [hdi] at hd; cases hd
            | some d' => rw [hdi] at hd; rw [List.mem_singleton] at hd; subst hd; exact ⟨k, i, hB, by omega, h0, hdi⟩
          · obtain ⟨j0, x0, g1, g2, g3⟩ := hbl d hd
            exact ⟨j0, x0, g1, by omega, g3⟩) j x' h
        rw [show k + 1 + j = k + (j + 1) by omega] at this
        exact this
    · cases j with
      | zero =>
        simp at h; subst h
        exact ⟨i, by simpa using h0, rfl, .inl rfl⟩
      | succ j =>
        simp at h
        have := blkT_spec (pi := pi) is0 (k + 1) _ (by omega) hi' (fun d hd => by
          obtain ⟨j0, x0, g1, g2, g3⟩ := hbl d hd
          exact ⟨j0, x0, g1, by omega, g3⟩) j x' h
        rw [show k + 1 + j = k + (j + 1) by omega] at this
        exact this
section
variable {P : Program} {N : Nat} {ops : Array Oper} {is is' : List AIns} {bd X : List Nat} {anc : List (List Nat)} {S : Nat → St} {pi : Nat}
theorem Chk.less (hc : Chk ops is bd anc) (hlen : is'.length = is.length) (hs : ∀ (j : Nat) (x' : AIns), is'[j]? = some x' → ∃ x, is[j]? = some x ∧ x'.dst = x.dst ∧ ∀ t ∈ readsOf x', t ∈ readsOf x) : Chk ops is' bd anc := by
  refine ⟨hc.back, hc.up, ?_, ?_, hc.ex⟩
  · intro i j x y d hij hx hy hd hd'
    obtain ⟨x0, g1, g2, _⟩ := hs i x hx
    obtain ⟨y0, g3, g4, _⟩ := hs j y hy
    exact hc.dst i j x0 y0 d hij g1 g3 (g2 ▸ hd) (g4 ▸ hd')
  · intro i j x y hij hx hy hcl
    obtain ⟨x0, g1, g2, g5⟩ := hs i x hx
    obtain ⟨y0, g3, g4, g6⟩ := hs j y hy
    refine hc.ord i j x0 y0 hij g1 g3 ?_
    simp only [clash, Bool.or_eq_true] at hcl ⊢
    rcases hcl with ((((h | h) | h) | h) | h) | h
    · refine .inl (.inl (.inl (.inl (.inl ?_))))
      rw [← g2]
      split at h
      · exact List.contains_iff_mem.2 (g6 _ (List.contains_iff_mem.1 h))
      · cases h
    · refine .inl (.inl (.inl (.inl (.inr ?_))))
      rw [← g4]
      split at h
      · exact List.contains_iff_mem.2 (g5 _ (List.contains_iff_mem.1 h))
      · cases h
    · exact .inl (.inl (.inl (.inr h)))
    · exact .inl (.inl (.inr h))
    · exact .inl (.inr h)
    · exact .inr h
/-- What stands behind an operation that is not done, is not done. -/
theorem Blk.not (hl : is.length = ops.size) (hc : Chk ops is bd anc) {L : Array Bool} (hsz : L.size = ops.size) (hcl : ∀ (j : Nat) (o : Oper), ops[j]? = some o → L[j]? = some true → ∀ e ∈ o.after, bindsAny e = true → L[e.on]? = some true)
    (hpi : pi < ops.size) (hpb : bd.contains pi = true) (hL : L[pi]? ≠ some true) {j : Nat} (h : Blk is bd pi j) (hj : j < ops.size) : (∃ k, k < j ∧ k ∈ anc.getD j [] ∧ L[k]? ≠ some true) ∨ j = pi := by
  have done : ∀ j k, j < ops.size → L[j]? = some true → k ∈ anc.getD j [] → L[k]? = some true := fun j k hj hLj hk => anc_done hc hcl hsz j (fun o ho e he hb => hcl j o ho hLj e he hb) k hk hj
  induction h with
  | bar j h hb =>
    rcases Nat.lt_or_ge pi j with g | g
    · refine .inl ⟨pi, g, ?_, hL⟩
      exact hc.ord pi j (is[pi]'(by omega)) (is[j]'(by omega)) g (by simp) (by simp) (by unfold clash; simp only [hpb, hb, Bool.and_self, Bool.or_true, Bool.true_or])
    · exact .inr (by omega)
  | dep j k x y d h hk hx hy hd hr ih =>
    refine .inl ⟨k, hk, hc.ord k j x y hk hx hy (by simp [clash, hd, hr]), fun hLk => ?_⟩
    rcases ih (by omega) with ⟨k', g1, g2, g3⟩ | g
    · exact g3 (done k k' (by omega) hLk g2)
    · exact hL (g ▸ hLk)

theorem drawnP_ok (hl : is.length = ops.size) (hc : Chk ops is bd anc) (hl' : is'.length = is.length) (hsp : ∀ (j : Nat) (x' : AIns), is'[j]? = some x' → ∃ x, is[j]? = some x ∧ x'.dst = x.dst ∧ (x' = x ∨ (Blk is bd pi j ∧ readsOf x' = [])))
    (ch : Chain P is' bd X S) (htr : ∀ (i : Nat) (o : Oper), ops[i]? = some o → ∃ x c, is[i]? = some x ∧ trIns P N ops c o = some x) (hpi : pi < ops.size) (hpb : bd.contains pi = true)
    {K0 : Kr} {w0 : World} {df : List Deferred} {Q : Exit → Act → World → Prop} (hk : ∀ K s a w o x c, ops[pi]? = some o → is[pi]? = some x → trIns P N ops c o = some x → SRel N K s a w → Evo K0 (S 0).σ w0 K s.σ w → a.defers = df → (∀ t ∈ readsOf x, lk s.ρ t = lk (S pi).ρ t) → s.σ = (S pi).σ →
      Region.wanted o (yielded ops a.tmps) = true ∧ ∀ next, o.wp P a w next Q) :
    ∀ (fuel : Nat) (L : Array Bool) (a : Act) (w : World), DInv N ops is' bd S K0 w0 df L a w → L[pi]? = some false → (List.range ops.size).countP (fun j => !L.getD j true) ≤ fuel → wpAny P .any ops Q fuel L a w := by
  have hll : is'.length = ops.size := hl'.trans hl
  have hc' : Chk ops is' bd anc := hc.less hl' fun j x' h => by
    obtain ⟨x, g1, g2, g3⟩ := hsp j x' h
    refine ⟨x, g1, g2, fun t ht => ?_⟩
    rcases g3 with rfl | ⟨_, g3⟩
    · exact ht
    · rw [g3] at ht; cases ht
  -- while it is not done, some one is ready
  have fin : ∀ (L : Array Bool) (a : Act) (w : World), DInv N ops is' bd S K0 w0 df L a w → L[pi]? = some false → Region.ready .any ops L = [] → Q .normal a w := by
    intro L a w hi hLp hr
    have all : ∀ j, j < ops.size → L[j]? = some true := by
      intro j
      induction j using Nat.strongRecOn with
      | _ j ih =>
        intro hj
        have hjl : j < L.size := by rw [hi.size]; exact hj
        cases hb : L[j] with
        | true => simp [hjl, hb]
        | false =>
          exfalso
          have : j ∈ Region.ready .any ops L := by
            unfold Region.ready
            rw [List.mem_filter]
            refine ⟨by simpa using hj, ?_⟩
            have ho : ops[j]? = some ops[j] := by simp [hj]
            have hLj : L.getD j true = false := by simp [Array.getD_eq_getD_getElem?, hjl, hb]
            rw [hLj, ho]
            simp only [Bool.not_false, Bool.true_and, Option.map_some, Option.getD_some]
            rw [Array.all_eq_true_iff_forall_mem]
            intro e he
            by_cases hbe : Region.binds .any e = true
            · have h1 := hc.back j _ ho e he hbe
              have := ih e.on h1 (by omega)
              simp [Array.getD_eq_getD_getElem?, this]
            · simp [hbe]
          rw [hr] at this
          cases this
    have := all pi hpi
    rw [hLp] at this; cases this
  intro fuel
  induction fuel with
  | zero =>
    intro L a w hi hLp hcnt
    have hr : Region.ready .any ops L = [] := by
      unfold Region.ready
      rw [List.filter_eq_nil_iff]
      intro j hj
      have := List.countP_eq_zero.1 (Nat.le_zero.1 hcnt) j hj
      simp only [Bool.not_eq_true] at this
      rw [this]
      simp
    exact ⟨hr, fin L a w hi hLp hr⟩
  | succ fuel ih =>
    intro L a w hi hLp hcnt
    refine ⟨fun hr => fin L a w hi hLp hr, ?_⟩
    intro i hir
    unfold Region.ready at hir
    rw [List.mem_filter] at hir
    obtain ⟨hir1, hir2⟩ := hir
    have hilt : i < ops.size := by simpa using hir1
    have hil : i < L.size := by rw [hi.size]; exact hilt
    have ho : ops[i]? = some ops[i] := by simp [hilt]
    simp only [Bool.and_eq_true, Bool.not_eq_true', ho, Option.map_some, Option.getD_some] at hir2
    have hLi : L[i]? = some false := by
      have := hir2.1
      simp only [Array.getD_eq_getD_getElem?, Array.getElem?_eq_getElem hil, Option.getD_some] at this
      simp [hil, this]
    have hready : ∀ o : Oper, ops[i]? = some o → ∀ e ∈ o.after, bindsAny e = true → L[e.on]? = some true := by
      intro o ho' e he hb
      rw [ho] at ho'; injection ho' with ho'; subst ho'
      have := (Array.all_eq_true_iff_forall_mem.1 hir2.2) e he
      have hb' : Region.binds .any e = true := hb
      rw [hb'] at this
      simp only [Bool.not_true, Bool.false_or] at this
      cases hL2 : L[e.on]? with
      | none => simp [Array.getD_eq_getD_getElem?, hL2] at this
      | some b => simp [Array.getD_eq_getD_getElem?, hL2] at this; rw [this]
    obtain ⟨x, c, hx, hxtr⟩ := htr i _ ho
    obtain ⟨K, s, hs, hE, h1, h2, m, hm, h3, h4⟩ := hi.st
    have toD : ∀ (j : Nat) (y : AIns), is[j]? = some y → ∃ y', is'[j]? = some y' ∧ y'.dst = y.dst := by
      intro j y hy
      have hjl : j < is'.length := by have := (List.getElem?_eq_some_iff.1 hy).1; omega
      have hy' : is'[j]? = some (is'[j]'hjl) := by simp
      obtain ⟨y0, g1, g2, _⟩ := hsp j _ hy'
      rw [hy] at g1; injection g1 with g1; subst g1
      exact ⟨_, hy', g2⟩
    -- the operands, by the operations as they stand
    have hturn : ∀ t ∈ readsOf x, lk s.ρ t = lk (S i).ρ t := by
      intro t ht
      have hilt' : i < is.length := by omega
      by_cases hw : ∃ (j : Nat) (y : AIns), j < i ∧ is[j]? = some y ∧ y.dst = some t
      · obtain ⟨j, y, hji, hy, hd⟩ := hw
        have hcl : clash bd j i y x = true := by simp [clash, hd, ht]
        have hLj := anc_done hc hi.closed hi.size i hready j (hc.ord j i y x hji hy hx hcl) (by omega)
        obtain ⟨y', hy', hd'⟩ := toD j y hy
        rw [h1 j y' t hy' hLj (hd'.trans hd)]
        have := ch.lk_same t (i - (j + 1)) (j + 1) (by omega) (fun k z hk1 hk2 hz e => hc'.dst j k y' z t (by omega) hy' hz (hd'.trans hd) e)
        rw [show j + 1 + (i - (j + 1)) = i by omega] at this
        exact this.symm
      · have h0 : lk (S i).ρ t = lk (S 0).ρ t := by
          have := ch.lk_same t i 0 (by omega) (fun k z _ hk2 hz e => by
            obtain ⟨z0, g1, g2, _⟩ := hsp k z hz
            exact hw ⟨k, z0, by omega, g1, g2 ▸ e⟩)
          simpa using this
        rw [h0]
        refine h2 t fun j y' hy' hLj e => ?_
        obtain ⟨y, hy, g2, _⟩ := hsp j y' hy'
        have e : y.dst = some t := g2 ▸ e
        rcases Nat.lt_trichotomy j i with h | h | h
        · exact hw ⟨j, y, h, hy, e⟩
        · subst h; rw [hLi] at hLj; cases hLj
        · have hjlt : j < is.length := (List.getElem?_eq_some_iff.1 hy).1
          have hcl : clash bd i j x y = true := by simp [clash, e, ht]
          have := anc_done hc hi.closed hi.size j (fun o ho e' he' hb' => hi.closed j o ho hLj e' he' hb') i (hc.ord i j x y h hx hy hcl) (by omega)
          rw [hLi] at this; cases this
    have hσi : bd.contains i = true → s.σ = (S i).σ := by
      intro hb
      rw [h4]
      have hbo : ∀ j : Nat, j < ops.size → bd.contains j = true → (j < m ↔ j < i) := by
        intro j hj hbj
        rw [← h3 j hj hbj]
        have hy : is[j]? = some (is[j]'(by omega)) := by simp
        rcases Nat.lt_trichotomy j i with h | h | h
        · have := anc_done hc hi.closed hi.size i hready j (hc.ord j i _ x h hy hx (by simp only [clash, hb, hbj]; simp)) hilt
          exact ⟨fun _ => h, fun _ => this⟩
        · subst h; rw [hLi]; simp
        · refine ⟨fun h' => ?_, fun h' => by omega⟩
          have := anc_done hc hi.closed hi.size j (fun o ho e' he' hb' => hi.closed j o ho h' e' he' hb') i (hc.ord i j x _ h hx hy (by simp only [clash, hb, hbj]; simp)) hj
          rw [hLi] at this; cases this
      rcases Nat.le_total m i with h | h
      · have := ch.σ_same (i - m) m (by omega) (fun j hj1 hj2 => by
          cases hbj : bd.contains j with
          | false => rfl
          | true => have := (hbo j (by omega) hbj).2 (by omega); omega)
        rw [show m + (i - m) = i by omega] at this
        exact this.symm
      · have := ch.σ_same (m - i) i (by omega) (fun j hj1 hj2 => by
          cases hbj : bd.contains j with
          | false => rfl
          | true => have := (hbo j (by omega) hbj).1 (by omega); omega)
        rw [show i + (m - i) = m by omega] at this
        exact this
    obtain ⟨w1, w2, w3, w4, w5, w6, w7⟩ := wanted_of hxtr hs
    show wpOp P ops Q i _ a w
    unfold wpOp
    rw [ho]
    simp only
    by_cases hip : i = pi
    · subst hip
      obtain ⟨g1, g2⟩ := hk K s a w _ x c ho hx hxtr hs hE hi.defers hturn (hσi hpb)
      rw [g1, if_pos rfl]
      exact .inl (g2 _)
    have hx' : is'[i]? = some x := by
      have hy' : is'[i]? = some (is'[i]'(by omega)) := by simp
      obtain ⟨y0, g1, g2, g3⟩ := hsp i _ hy'
      rw [hx] at g1; injection g1 with g1; subst g1
      rcases g3 with g3 | ⟨g3, _⟩
      · rw [hy', g3]
      · exfalso
        rcases g3.not hl hc hi.size hi.closed hpi hpb (by rw [hLp]; simp) hilt with ⟨k, _, g5, g6⟩ | g4
        · exact g6 (anc_done hc hi.closed hi.size i hready k g5 hilt)
        · exact hip g4
    have hstep := ch.step i x hx'
    have hLp' : (L.setIfInBounds i true)[pi]? = some false := by rw [Array.getElem?_setIfInBounds_ne hip]; exact hLp
    have hcnt' : (List.range ops.size).countP (fun j => !(L.setIfInBounds i true).getD j true) ≤ fuel := by
      have hlt := countP_lt (p := fun j => !L.getD j true) (q := fun j => !(L.setIfInBounds i true).getD j true) (l := List.range ops.size) (fun j hj => by
        by_cases e : i = j
        · subst e; simp [Array.getD_eq_getD_getElem?, hil] at hj
        · simpa [Array.getD_eq_getD_getElem?, Array.getElem?_setIfInBounds_ne e] using hj) (i := i) hir1 (by simpa using hir2.1) (by simp [Array.getD_eq_getD_getElem?, hil])
      omega
    have hev : ∀ y ∈ opds x.op, ev s.ρ y = ev (S i).ρ y := by
      intro y hy
      cases y with
      | t n => exact hturn n (reads_mem hy)
      | c v => rfl
    -- the operation is carried out
    have hXi : bd.contains (i + 1000000) = true → ∀ p ∈ X, lk s.σ p = lk (S i).σ p := by
      intro hrd p hp
      have hex : ∀ j, j < ops.size → (j < m ∨ j < i) → bd.contains j = true → bd.contains (j + 2000000) = false := by
        intro j hj hjm hbj
        cases hb2 : bd.contains (j + 2000000) with
        | false => rfl
        | true =>
          exfalso
          have hanc := hc.ex i j hilt hj hbj hb2 hrd
          rcases hjm with hjm | hji
          · have hLj := (h3 j hj hbj).2 hjm
            have := anc_done hc hi.closed hi.size j (fun o ho e' he' hb' => hi.closed j o ho hLj e' he' hb') i hanc hj
            rw [hLi] at this; cases this
          · have hlt : ∀ (j : Nat), j < ops.size → ∀ a ∈ anc.getD j [], a < j := by
              intro j
              induction j using Nat.strongRecOn with
              | _ j ih2 =>
                intro hj a ha
                obtain ⟨e, _, _, q1, q2⟩ := hc.up j ops[j] (by simp [hj]) a ha
                rcases q2 with rfl | q2
                · exact q1
                · exact Nat.lt_trans (ih2 e.on q1 (by omega) a q2) q1
            have := hlt j hj i hanc
            omega
      rw [h4, ch.X_same hp m (by omega) (fun j hj hbj => hex j (by omega) (.inl hj) hbj), ch.X_same hp i (by omega) (fun j hj hbj => hex j (by omega) (.inr hj) hbj)]
    have go : DOneX P bd X i x (S i) (S (i + 1)) →
        ops[i].wp P a w (wpAny P .any ops Q fuel (L.setIfInBounds i true)) Q := by
      intro h
      obtain ⟨R, hst, hR⟩ : ∃ R, Step P s x.op R ∧ ∀ r' σ', R r' σ' → (∀ t, x.dst = some t → lk (S (i + 1)).ρ t = some r') ∧ ((bd.contains i = false ∧ σ' = s.σ) ∨ (bd.contains i = true ∧ σ' = (S (i + 1)).σ)) := by
        rcases h with ⟨hb, r, hf | ⟨hrd, hf⟩, e⟩ | ⟨hb, r, σ1, hf, _, e⟩
        rotate_left
        · have h5 := hf s.σ (hXi hrd)
          refine ⟨_, .op x.op r s.σ (by rw [aop_congr hev]; exact h5), fun r' σ' hr => ?_⟩
          obtain ⟨rfl, rfl⟩ := hr
          exact ⟨fun t ht => by rw [e, lk_put, if_pos ht], .inl ⟨hb, rfl⟩⟩
        rotate_left
        · obtain ⟨R, h5, h6⟩ := hf.step s hev
          refine ⟨R, h5, fun r' σ' hr => ?_⟩
          obtain ⟨rfl, rfl⟩ := h6 r' σ' hr
          exact ⟨fun t ht => by rw [e, lk_put, if_pos ht], .inl ⟨hb, rfl⟩⟩
        · obtain ⟨R, h5, h6⟩ := hf.step s hev (hσi hb)
          refine ⟨R, h5, fun r' σ' hr => ?_⟩
          obtain ⟨rfl, rfl⟩ := h6 r' σ' hr
          exact ⟨fun t ht => by rw [e, lk_put, if_pos ht], .inr ⟨hb, by rw [e, St.put_σ]⟩⟩
      refine Oper.wp_mono ?_ (hst.wp (N := N) w3 w4 K a w Q hs)
      rintro a1 w1' ⟨r', σ', K', u, rfl, hr', g1, g2, g3⟩
      obtain ⟨q1, q2⟩ := hR r' σ' hr'
      have hs1 := TRel.put hs g3.le g2 g1 w2
      refine ih _ _ _ (hi.next hll hc' ch hx' hLi hready hE h1 h2 hm h3 h4 hs1 (by rw [St.put_σ]; exact g3) (put_defers _ _ _) ?_ ?_) hLp' hcnt'
      · intro t
        rw [lk_put, w1]
        by_cases e : ops[i].dst = some t
        · rw [if_pos e, if_pos e, q1 t (w1.trans e)]
        · rw [if_neg e, if_neg e]
      · rw [St.put_σ]; exact q2
    unfold DStepX at hstep
    cases hg : x.guard with
    | none =>
      rw [hg] at hstep
      rw [w5 hg, if_pos rfl]
      exact .inl (go hstep)
    | some tw =>
      obtain ⟨t, want⟩ := tw
      rw [hg] at hstep
      -- where it is left out
      have skip : Region.wanted ops[i] (yielded ops a.tmps) = false → S (i + 1) = (S i).put x.dst .dead → (if Region.wanted ops[i] (yielded ops a.tmps) then ops[i].wp P a w (wpAny P .any ops Q fuel (L.setIfInBounds i true)) Q ∨ (ops[i].asks P a w ∧ LetsOut Q) else wpAny P .any ops Q fuel (L.setIfInBounds i true) (a.put ops[i].dst undef) w) := by
        intro hw e
        rw [hw, if_neg (by simp)]
        have hs1 := TRel.put hs (Kr.Le.refl _ _) hs.slots TRel.dead w2
        refine ih _ _ _ (hi.next hll hc' ch hx' hLi hready hE h1 h2 hm h3 h4 hs1 (by rw [St.put_σ]; exact Evo.refl _ _ _) (put_defers _ _ _) ?_ ?_) hLp' hcnt'
        · intro t'
          rw [lk_put, w1]
          by_cases e' : ops[i].dst = some t'
          · rw [if_pos e', if_pos e', e, lk_put, if_pos (w1.trans e')]
          · rw [if_neg e', if_neg e']
        · rw [St.put_σ]
          cases hbi : bd.contains i with
          | false => exact .inl ⟨rfl, rfl⟩
          | true => exact .inr ⟨rfl, by rw [e, St.put_σ]; exact hσi hbi⟩
      rcases hstep with ⟨hb, e⟩ | ⟨b, hb, h5, h6⟩
      · have hbs : lk s.ρ t = some .dead := by rw [hturn t (guard_mem hg)]; exact hb
        exact skip (w7 t want hg hbs) e
      have hbs : lk s.ρ t = some (.iv (.bool b)) := by rw [hturn t (guard_mem hg)]; exact hb
      have hwb := w6 t want b hg hbs
      by_cases hbw : b = want
      · rw [hwb, if_pos (by simpa using hbw)]
        exact .inl (go (h5 hbw))
      · exact skip (by rw [hwb]; simpa using hbw) (h6 hbw)
end
end Go.Proofs.YtdlgenppdgkacaaGreatDoor.Ag
