/- When two places are alike; reads that may come out of turn. -/
import Derived.Test.YtdlgenppdgkacaaGreatDoorAgE
set_option linter.unusedVariables false
set_option linter.unusedSimpArgs false
namespace Go.Proofs.YtdlgenppdgkacaaGreatDoor.Ag

def eqFn : Fn → Fn → Bool
  | .func a, .func b => decide (a = b)
  | _, _ => false
theorem eqFn_ok {x y : Fn} (h : eqFn x y = true) : x = y := by
  unfold eqFn at h
  split at h
  · simp at h; rw [h]
  · cases h
mutual
def eqIV : IV → IV → Bool
  | .bool a, .bool b => a == b
  | .int k n, .int k' n' => decide (k = k') && decide (n = n')
  | .str a, .str b => decide (a.data.toList = b.data.toList)
  | .nil, .nil => true
  | .slice xs, .slice ys => eqIVs xs ys
  | .agg xs, .agg ys => eqIVs xs ys
  | .ref x, .ref y => eqIV x y
  | .nilp, .nilp => true
  | .nilfn, .nilfn => true
  | .niliface, .niliface => true
  | .nilmap, .nilmap => true
  | .iface t x, .iface u y => decide (t = u) && eqIV x y
  | .tup xs, .tup ys => eqIVs xs ys
  | .fn f a b, .fn g c d => eqFn f g && eqIVs a c && eqIVs b d
  | _, _ => false
def eqIVs : List IV → List IV → Bool
  | [], [] => true
  | x :: xs, y :: ys => eqIV x y && eqIVs xs ys
  | _, _ => false
end
mutual
theorem eqIV_ok : ∀ {x y : IV}, eqIV x y = true → x = y
  | .bool a, y, h => by cases y <;> simp [eqIV] at h; rw [h]
  | .int k n, y, h => by cases y <;> simp [eqIV] at h; rw [h.1, h.2]
  | .str a, y, h => by
    cases y <;> simp [eqIV] at h
    rename_i b
    obtain ⟨⟨a⟩⟩ := a; obtain ⟨⟨b⟩⟩ := b
    simp at h; subst h; rfl
  | .nil, y, h => by cases y <;> simp [eqIV] at h; rfl
  | .slice xs, y, h => by cases y <;> simp [eqIV] at h; rw [eqIVs_ok h]
  | .agg xs, y, h => by cases y <;> simp [eqIV] at h; rw [eqIVs_ok h]
  | .ref x, y, h => by cases y <;> simp [eqIV] at h; rw [eqIV_ok h]
  | .nilp, y, h => by cases y <;> simp [eqIV] at h; rfl
  | .nilfn, y, h => by cases y <;> simp [eqIV] at h; rfl
  | .niliface, y, h => by cases y <;> simp [eqIV] at h; rfl
  | .nilmap, y, h => by cases y <;> simp [eqIV] at h; rfl
  | .iface t x, y, h => by cases y <;> simp [eqIV] at h; rw [h.1, eqIV_ok h.2]
  | .fn f a b, y, h => by cases y <;> simp [eqIV] at h; rw [eqFn_ok h.1.1, eqIVs_ok h.1.2, eqIVs_ok h.2]
  | .tup xs, y, h => by cases y <;> simp [eqIV] at h; rw [eqIVs_ok h]
theorem eqIVs_ok : ∀ {x y : List IV}, eqIVs x y = true → x = y
  | [], [], h => rfl
  | [], _ :: _, h => by simp [eqIVs] at h
  | _ :: _, [], h => by simp [eqIVs] at h
  | x :: xs, y :: ys, h => by simp [eqIVs] at h; rw [eqIV_ok h.1, eqIVs_ok h.2]
end
mutual
def eqTV : TV → TV → Bool
  | .iv x, .iv y => eqIV x y
  | .loc k n o, .loc k' n' o' => decide (k = k' ∧ n = n' ∧ o = o')
  | .lst k n, .lst k' n' => decide (k = k' ∧ n = n')
  | .el k n z i o, .el k' n' z' i' o' => decide (k = k' ∧ n = n' ∧ z = z' ∧ i = i' ∧ o = o')
  | .mp k n, .mp k' n' => decide (k = k' ∧ n = n')
  | .itr k n, .itr k' n' => decide (k = k' ∧ n = n')
  | .dead, .dead => true
  | .agg xs, .agg ys => eqTVs xs ys
  | .tup xs, .tup ys => eqTVs xs ys
  | .fn f a b, .fn g c d => eqFn f g && eqTVs a c && eqTVs b d
  | _, _ => false
def eqTVs : List TV → List TV → Bool
  | [], [] => true
  | x :: xs, y :: ys => eqTV x y && eqTVs xs ys
  | _, _ => false
end
mutual
theorem eqTV_ok : ∀ {x y : TV}, eqTV x y = true → x = y
  | .iv a, y, h => by cases y <;> simp [eqTV] at h; rw [eqIV_ok h]
  | .loc _ _ _, y, h => by cases y <;> simp [eqTV] at h; obtain ⟨rfl, rfl, rfl⟩ := h; rfl
  | .lst _ _, y, h => by cases y <;> simp [eqTV] at h; obtain ⟨rfl, rfl⟩ := h; rfl
  | .el _ _ _ _ _, y, h => by cases y <;> simp [eqTV] at h; obtain ⟨rfl, rfl, rfl, rfl, rfl⟩ := h; rfl
  | .mp _ _, y, h => by cases y <;> simp [eqTV] at h; obtain ⟨rfl, rfl⟩ := h; rfl
  | .itr _ _, y, h => by cases y <;> simp [eqTV] at h; obtain ⟨rfl, rfl⟩ := h; rfl
  | .sl _ _ _ _ _ _, y, h => by cases y <;> simp [eqTV] at h
  | .dead, y, h => by cases y <;> simp [eqTV] at h; rfl
  | .ifb _ _, y, h => by cases y <;> simp [eqTV] at h
  | .agg xs, y, h => by cases y <;> simp [eqTV] at h; rw [eqTVs_ok h]
  | .tup xs, y, h => by cases y <;> simp [eqTV] at h; rw [eqTVs_ok h]
  | .fn _ _ _, y, h => by cases y <;> simp [eqTV] at h; rw [eqFn_ok h.1.1, eqTVs_ok h.1.2, eqTVs_ok h.2]
theorem eqTVs_ok : ∀ {x y : List TV}, eqTVs x y = true → x = y
  | [], [], h => rfl
  | [], _ :: _, h => by simp [eqTVs] at h
  | _ :: _, [], h => by simp [eqTVs] at h
  | x :: xs, y :: ys, h => by simp [eqTVs] at h; rw [eqTV_ok h.1, eqTVs_ok h.2]
end
def eqEnts : List (IV × TV) → List (IV × TV) → Bool
  | [], [] => true
  | (k, x) :: xs, (l, y) :: ys => eqIV k l && eqTV x y && eqEnts xs ys
  | _, _ => false
theorem eqEnts_ok : ∀ {x y : List (IV × TV)}, eqEnts x y = true → x = y
  | [], [], h => rfl
  | [], _ :: _, h => by simp [eqEnts] at h
  | _ :: _, [], h => by simp [eqEnts] at h
  | (k, x) :: xs, (l, y) :: ys, h => by
    simp [eqEnts] at h; rw [eqIV_ok h.1.1, eqTV_ok h.1.2, eqEnts_ok h.2]
def eqItem : Item → Item → Bool
  | .gone, .gone => true
  | .froz xs, .froz ys => eqIVs xs ys
  | .box xs, .box ys => eqTVs xs ys
  | .list e z xs, .list e' z' ys => decide (e = e' ∧ z = z') && eqIVs xs ys
  | .tl e z xs, .tl e' z' ys => decide (e = e' ∧ z = z') && eqTVs xs ys
  | .map k xs, .map l ys => decide (k = l) && eqEnts xs ys
  | .siter s p, .siter s' p' => decide (s.data.toList = s'.data.toList ∧ p = p')
  | _, _ => false
theorem eqItem_ok {x y : Item} (h : eqItem x y = true) : x = y := by
  cases x <;> cases y <;> simp [eqItem] at h
  · rfl
  · rw [eqIVs_ok h]
  · rw [eqTVs_ok h]
  · obtain ⟨⟨rfl, rfl⟩, h⟩ := h; rw [eqIVs_ok h]
  · obtain ⟨⟨rfl, rfl⟩, h⟩ := h; rw [eqTVs_ok h]
  · obtain ⟨rfl, h⟩ := h; rw [eqEnts_ok h]
  · rename_i s p s' p'
    obtain ⟨h, rfl⟩ := h
    obtain ⟨⟨a⟩⟩ := s; obtain ⟨⟨b⟩⟩ := s'
    simp at h; subst h; rfl
def eqPlace (σ σ' : Slots) (p : Nat) : Bool := match lk σ p, lk σ' p with
  | some (n, x), some (n', y) => decide (n = n') && eqItem x y
  | none, none => true
  | _, _ => false
theorem eqPlace_ok {σ σ' : Slots} {p : Nat} (h : eqPlace σ σ' p = true) : lk σ' p = lk σ p := by
  unfold eqPlace at h
  split at h
  · rename_i n x n' y h1 h2
    simp at h
    rw [h1, h2, h.1, eqItem_ok h.2]
  · rename_i h1 h2; rw [h1, h2]
  · cases h

/-! ### reads -/
def placeT : Option TV → List Nat
  | some (.loc k _ _) => [k]
  | some (.lst k _) => [k]
  | some (.el k _ _ _ _) => [k]
  | some (.mp k _) => [k]
  | _ => []
/-- The places that a read reads; nothing for what is no read. -/
def rdPlaces (ρ : List (Nat × TV)) : AOp → Option (List Nat)
  | .load _ _ x => some (placeT (ev ρ x))
  | .len _ x => some (placeT (ev ρ x))
  | .lenm x => some (placeT (ev ρ x))
  | .idxA _ x _ => some (placeT (ev ρ x))
  | .slcL _ x _ _ _ => some ((placeT (ev ρ x)).flatMap fun p => [p, p + 1000003])
  | .build _ ps => some (ps.flatMap fun p => placeT (ev ρ p.2.2))
  | _ => none
theorem cellsOf_congr {σ σ' : Slots} {v : TV} (hs : ∀ p ∈ placeT (some v), lk σ' p = lk σ p) : cellsOf σ' v = cellsOf σ v := by
  cases v <;> simp only [cellsOf, placeT, List.mem_singleton, forall_eq] at hs ⊢
  all_goals rw [hs]
theorem fillTV_congr' {ρ : List (Nat × TV)} {σ σ' : Slots} : ∀ {ps : List (Nat × Nat × AOpd)} {cs : List TV}, (∀ p ∈ ps.flatMap fun p => placeT (ev ρ p.2.2), lk σ' p = lk σ p) → fillTV σ' ρ cs ps = fillTV σ ρ cs ps
  | [], cs, _ => rfl
  | (off, sz, x) :: r, cs, h => by
    simp only [fillTV]
    cases hv : ev ρ x with
    | none => rfl
    | some v =>
      have e1 : cellsOf σ' v = cellsOf σ v := cellsOf_congr fun p hp => h p (List.mem_flatMap.2 ⟨(off, sz, x), by simp, by simp only; rw [hv]; exact hp⟩)
      simp only [e1]
      cases cellsOf σ v with
      | none => rfl
      | some us =>
        simp only
        split
        · exact fillTV_congr' fun p hp => h p (by rw [List.flatMap_cons]; exact List.mem_append.2 (.inr hp))
        · rfl
theorem read_ok {ρ : List (Nat × TV)} {σ σ' : Slots} {o : AOp} {r : TV} {σ0 : Slots} {ps : List Nat} (hp : rdPlaces ρ o = some ps) (h : aop ρ σ o = some (r, σ0)) (hs : ∀ p ∈ ps, lk σ' p = lk σ p) : aop ρ σ' o = some (r, σ') := by
  cases o <;> simp only [rdPlaces, reduceCtorEq] at hp
  case load sz ag x =>
    injection hp with hp; subst hp
    simp only [aop] at h ⊢
    cases hv : ev ρ x with
    | none => rw [hv] at h; cases h
    | some v =>
      rw [hv] at h hs
      have e1 : loadOf σ' sz ag v = loadOf σ sz ag v := by
        cases v <;> simp only [loadOf, placeT, List.mem_singleton, forall_eq] at hs ⊢
        all_goals first
          | rw [hs]
          | (rename_i z; cases z <;> rfl)
      have e2 : loadT σ' sz ag v = loadT σ sz ag v := by
        cases v <;> simp only [loadT, placeT, List.mem_singleton, forall_eq] at hs ⊢ <;> rw [hs]
      simp only [e1, e2]
      simp only at h
      split at h
      · injection h with h; injection h with h1 h2; subst h1; rfl
      · split at h
        · injection h with h; injection h with h1 h2; subst h1; rfl
        · cases h
  case len str x =>
    injection hp with hp; subst hp
    simp only [aop] at h ⊢
    cases hv : ev ρ x with
    | none => rw [hv] at h; cases h
    | some v =>
      rw [hv] at h hs
      have e1 : lenOf σ' v = lenOf σ v := by
        cases v <;> simp only [lenOf, placeT, List.mem_singleton, forall_eq] at hs ⊢
        all_goals first
          | rw [hs]
          | (rename_i z; cases z <;> rfl)
      have e2 : lenT σ' v = lenT σ v := by
        cases v <;> simp only [lenT, placeT, List.mem_singleton, forall_eq] at hs ⊢ <;> rw [hs]
      simp only [e1, e2]
      simp only at h
      split at h
      · rename_i hs1
        rw [if_pos hs1]
        split at h
        · injection h with h; injection h with h1 h2; subst h1; rfl
        · split at h
          · cases h
          · rename_i hs2
            rw [if_neg hs2]
            split at h
            · injection h with h; injection h with h1 h2; subst h1; rfl
            · cases h
      · cases h
  case lenm x =>
    injection hp with hp; subst hp
    simp only [aop] at h ⊢
    cases hv : ev ρ x with
    | none => rw [hv] at h; cases h
    | some v =>
      rw [hv] at h hs
      have e1 : lenM σ' v = lenM σ v := by
        cases v <;> simp only [lenM, placeT, List.mem_singleton, forall_eq] at hs ⊢
        all_goals first
          | rw [hs]
          | (rename_i z; cases z <;> rfl)
      simp only [e1]
      simp only at h
      split at h
      · injection h with h; injection h with h1 h2; subst h1; rfl
      · cases h
  case build zs ps' =>
    injection hp with hp; subst hp
    simp only [aop] at h ⊢
    rw [fillTV_congr' hs]
    split at h
    · injection h with h; injection h with h1 h2; subst h1; rfl
    · cases h
  case slcL sz x lo hi mx =>
    injection hp with hp; subst hp
    simp only [aop] at h ⊢
    split at h
    · rename_i k n l hh m hx el eh em
      rw [hx] at hs
      have e1 : lk σ' k = lk σ k := hs k (by simp [placeT])
      have e2 : capOf σ' k n = capOf σ k n := by unfold capOf; rw [hs (k + 1000003) (by simp [placeT])]
      simp only [e1, e2]
      split at h
      · split at h
        · split at h
          · rename_i hc
            rw [if_pos hc]
            injection h with h; injection h with h1 h2; subst h1; rfl
          · cases h
        · cases h
      · cases h
    · cases h
  case idxA sz x y =>
    injection hp with hp; subst hp
    simp only [aop] at h ⊢
    split at h
    · rename_i xs k n hx hy
      split at h
      · rename_i h0
        rw [if_pos h0]
        split at h
        · rename_i z hz
          split at h
          · rename_i h1
            rw [if_pos h1]
            injection h with h; injection h with h1 h2; subst h1; rfl
          · cases h
        · cases h
      · cases h
    · rename_i k m kn n hx hy
      rw [hx] at hs
      simp only [placeT, List.mem_singleton, forall_eq] at hs
      have e1 : idxL σ' sz n k m = idxL σ sz n k m := by simp only [idxL]; rw [hs]
      simp only [e1]
      split at h
      · injection h with h; injection h with h1 h2; subst h1; rfl
      · cases h
    · cases h
end Go.Proofs.YtdlgenppdgkacaaGreatDoor.Ag
