/- Regions that draw their order: what they come to is the same in each. -/
import Derived.Test.YtdlgenppdgkacaaGreatDoorAg13
set_option linter.unusedVariables false
set_option linter.unusedSimpArgs false
namespace Go.Proofs.YtdlgenppdgkacaaGreatDoor.Ag
open Go.RowKit (Below)

/-! ### what an operation looks at -/
def optL : Option AOpd → List AOpd
  | none => []
  | some x => [x]
def opds : AOp → List AOpd
  | .mov x | .un _ x | .conv _ x | .ext _ x | .len _ x | .fldA _ _ _ x | .fld _ _ _ x | .load _ _ x | .boxI x | .box _ x | .b2s x | .nilck x | .lenm x | .mkif _ x | .tas _ _ x | .panicA x | .eqnil _ x => [x]
  | .pick c x y => [c, x, y]
  | .pickb c x y => [c, x, y]
  | .bin _ _ x y | .eqs _ _ x y | .idxA _ x y | .idxS x y | .store _ x y | .storeS _ x y | .appD _ x y | .app _ _ _ _ x y | .mm _ x y | .look _ _ _ x y | .arrV _ _ _ x y | .arrA _ _ x y => [x, y]
  | .alloc _ _ | .blist _ _ _ | .mkmap _ _ => []
  | .mapset _ x y z => [x, y, z]
  | .mkfn _ fs cs => fs ++ cs
  | .build _ ps => ps.map fun p => p.2.2
  | .bslice _ xs | .blit _ _ _ xs => xs
  | .slcL _ x lo hi mx => x :: (optL lo ++ optL hi ++ optL mx)
  | .slc _ x lo hi mx => x :: (optL lo ++ optL hi ++ optL mx)
  | .slcS x lo hi => x :: (optL lo ++ optL hi)
  | .slcP _ _ x hi | .slcQ _ x hi | .slcH _ x hi | .slcT _ _ x hi => [x, hi]
  | .clr _ _ x => [x]
  | .bad => []
  | .mks _ _ _ _ _ x c => [x, c]
  | .call _ as_ => as_
  | .callv x as_ => x :: as_

theorem evAll_congr {ρ ρ' : List (Nat × TV)} : ∀ {xs : List AOpd}, (∀ x ∈ xs, ev ρ' x = ev ρ x) → evAll ρ' xs = evAll ρ xs
  | [], _ => rfl
  | x :: xs, h => by simp only [evAll, h x (by simp), evAll_congr (xs := xs) (fun y hy => h y (by simp [hy]))]
theorem evOpt_congr {ρ ρ' : List (Nat × TV)} {x : Option AOpd} (h : ∀ y ∈ optL x, ev ρ' y = ev ρ y) : evOpt ρ' x = evOpt ρ x := by
  cases x with
  | none => rfl
  | some x => simp only [evOpt, h x (by simp [optL])]
theorem fillTV_congr {ρ ρ' : List (Nat × TV)} {σ : Slots} : ∀ {ps : List (Nat × Nat × AOpd)} {cs : List TV}, (∀ x ∈ ps.map (fun p => p.2.2), ev ρ' x = ev ρ x) → fillTV σ ρ' cs ps = fillTV σ ρ cs ps
  | [], cs, _ => rfl
  | (off, sz, x) :: ps, cs, h => by
    simp only [fillTV, h x (by simp)]
    split
    · split
      · split
        · exact fillTV_congr (fun y hy => h y (by simp at hy ⊢; exact .inr hy))
        · rfl
      · rfl
    · rfl
theorem aop_congr {ρ ρ' : List (Nat × TV)} {σ : Slots} {o : AOp} (h : ∀ x ∈ opds o, ev ρ' x = ev ρ x) : aop ρ' σ o = aop ρ σ o := by
  cases o <;> simp only [opds, List.mem_cons, List.not_mem_nil, or_false, forall_eq_or_imp, forall_eq, List.mem_append] at h
  case bslice sz xs => simp only [aop, evAll_congr h]
  case blit k e sz xs => simp only [aop, evAll_congr h]
  case mkfn f fs cs => simp only [aop, evAll_congr (xs := fs) (fun y hy => h y (.inl hy)), evAll_congr (xs := cs) (fun y hy => h y (.inr hy))]
  case build zs ps => simp only [aop, fillTV_congr h]
  case slcL sz x lo hi mx =>
    simp only [aop, h.1, evOpt_congr (x := lo) (fun y hy => h.2 y (.inl (.inl hy))), evOpt_congr (x := hi) (fun y hy => h.2 y (.inl (.inr hy))), evOpt_congr (x := mx) (fun y hy => h.2 y (.inr hy))]
  case slc sz x lo hi mx =>
    simp only [aop, h.1, evOpt_congr (x := lo) (fun y hy => h.2 y (.inl (.inl hy))), evOpt_congr (x := hi) (fun y hy => h.2 y (.inl (.inr hy))), evOpt_congr (x := mx) (fun y hy => h.2 y (.inr hy))]
  case slcS x lo hi =>
    simp only [aop, h.1, evOpt_congr (x := lo) (fun y hy => h.2 y (.inl hy)), evOpt_congr (x := hi) (fun y hy => h.2 y (.inr hy))]
  case slcP k sz x hi => simp only [aop, h.1, evOpt, h.2]
  case slcQ sz x hi => simp only [aop, h.1, evOpt, h.2]
  case slcH sz x hi => simp only [aop, h.1, evOpt, h.2]
  case slcT p sz x lo => simp only [aop, h.1, evOpt, h.2]
  all_goals first
    | (simp only [aop]; done)
    | (simp only [aop, h]; done)
    | (simp only [aop, h.1, h.2]; done)
    | (simp only [aop, h.1, h.2.1, h.2.2]; done)

/-! ### operations that touch no place -/
theorem lk_nil {α : Type} (k : Nat) : lk ([] : List (Nat × α)) k = none := rfl
theorem lenOf_free {v : TV} {n : Int} (h : lenOf [] v = some n) (σ : Slots) : lenOf σ v = some n := by
  cases v with
  | iv x => cases x <;> first | exact h | simp [lenOf] at h
  | lst k m => simp [lenOf, lk] at h
  | _ => simp [lenOf] at h
theorem loadOf_free {v r : TV} {sz : Nat} {ag : Bool} (h : loadOf [] sz ag v = some r) (σ : Slots) : loadOf σ sz ag v = some r := by
  cases v with
  | iv x => cases x <;> first | exact h | simp [loadOf] at h
  | loc k m o => simp [loadOf, lk] at h
  | el k m z i o => simp [loadOf, lk] at h
  | _ => simp [loadOf] at h
theorem storeOf_free {p v : TV} {sz : Nat} {σ' : Slots} (h : storeOf [] sz p v = some σ') : False := by
  cases p <;> simp [storeOf, lk] at h
theorem lenT_free {v : TV} {n : Int} (h : lenT [] v = some n) : False := by cases v <;> simp [lenT, lk] at h
theorem idxL_free {sz k m : Nat} {n : Int} {r : TV} (h : idxL [] sz n k m = some r) : False := by simp [idxL, lk] at h
theorem loadT_free {v r : TV} {sz : Nat} {ag : Bool} (h : loadT [] sz ag v = some r) : False := by cases v <;> simp [loadT, lk] at h
theorem storeT_free {p v : TV} {sz : Nat} {σ' : Slots} (h : storeT [] sz p v = some σ') : False := by cases p <;> simp [storeT, lk] at h
theorem lenM_free {v : TV} {n : Int} (h : lenM [] v = some n) (σ : Slots) : lenM σ v = some n := by
  cases v with
  | iv x => cases x <;> first | exact h | simp [lenM] at h
  | mp k m => simp [lenM, lk] at h
  | _ => simp [lenM] at h
theorem lookOf_free {kd : KKind} {z key : IV} {ok : Bool} {v r : TV} (h : lookOf [] kd z ok v key = some r) (σ : Slots) : lookOf σ kd z ok v key = some r := by
  unfold lookOf at h ⊢
  have e : ∀ es, entsOf [] kd v = some es → entsOf σ kd v = some es := by
    intro es he
    cases v with
    | iv x => cases x <;> first | exact he | simp [entsOf] at he
    | mp k m => simp [entsOf, lk] at he
    | _ => simp [entsOf] at he
  split at h
  · rename_i es he; rw [e es he]; exact h
  · cases h
theorem mapsetOf_free {kd : KKind} {key : IV} {p v : TV} {σ' : Slots} (h : mapsetOf [] kd p key v = some σ') : False := by cases p <;> simp [mapsetOf, lk] at h
theorem cellsOf_free {v : TV} {cs : List TV} (h : cellsOf [] v = some cs) (σ : Slots) : cellsOf σ v = some cs := by
  cases v with
  | lst k m => simp [cellsOf, lk] at h
  | mp k m => simp [cellsOf, lk] at h
  | itr k m => simp [cellsOf] at h
  | _ => exact h
theorem srcOf_free {v : TV} {xs : List IV} (h : srcOf [] v = some xs) (σ : Slots) : srcOf σ v = some xs := by
  unfold srcOf at h ⊢
  generalize unIf v = v at h ⊢
  cases v with
  | iv x => cases x <;> first | exact h | simp [srcOf0] at h
  | lst k m => simp [srcOf0, lk] at h
  | _ => simp [srcOf0] at h
theorem fillTV_free {ρ : List (Nat × TV)} (σ : Slots) : ∀ {ps : List (Nat × Nat × AOpd)} {cs r : List TV}, fillTV [] ρ cs ps = some r → fillTV σ ρ cs ps = some r
  | [], cs, r, h => h
  | (off, sz, x) :: ps, cs, r, h => by
    simp only [fillTV] at h ⊢
    split at h
    · rename_i v hv
      split at h
      · rename_i us hus
        simp only [cellsOf_free hus σ]
        split at h
        · rename_i hc; rw [if_pos hc]; exact fillTV_free σ h
        · cases h
      · cases h
    · cases h
mutual
theorem shut_free : ∀ (t : TV) {x : IV} {σ' : Slots}, shut t [] = some (x, σ') → σ' = [] ∧ ∀ σ, shut t σ = some (x, σ)
  | .iv y, x, σ', h => by simp [shut] at h; obtain ⟨rfl, rfl⟩ := h; exact ⟨rfl, fun σ => rfl⟩
  | .lst k n, x, σ', h => by simp [shut, lk] at h
  | .agg cs, x, σ', h => by
    simp only [shut] at h
    split at h
    · rename_i xs σ1 h1
      simp at h; obtain ⟨rfl, rfl⟩ := h
      obtain ⟨h2, h3⟩ := shutAll_free cs h1
      exact ⟨h2, fun σ => by simp only [shut, h3 σ]⟩
    · cases h
  | .tup cs, x, σ', h => by
    simp only [shut] at h
    split at h
    · rename_i xs σ1 h1
      simp at h; obtain ⟨rfl, rfl⟩ := h
      obtain ⟨h2, h3⟩ := shutAll_free cs h1
      exact ⟨h2, fun σ => by simp only [shut, h3 σ]⟩
    · cases h
  | .fn f fs cs, x, σ', h => by
    simp only [shut] at h
    split at h
    · rename_i xs σ1 h1
      obtain ⟨h2, h3⟩ := shutAll_free fs h1
      subst h2
      split at h
      · rename_i ys σ2 h4
        simp at h; obtain ⟨rfl, rfl⟩ := h
        obtain ⟨h5, h6⟩ := shutAll_free cs h4
        exact ⟨h5, fun σ => by simp only [shut, h3 σ, h6 σ]⟩
      · cases h
    · cases h
  | .loc _ _ _, x, σ', h => by simp [shut] at h
  | .el _ _ _ _ _, x, σ', h => by simp [shut] at h
  | .mp _ _, x, σ', h => by simp [shut] at h
  | .itr _ _, x, σ', h => by simp [shut] at h
  | .sl _ _ _ _ _ _, x, σ', h => by simp [shut] at h
  | .dead, x, σ', h => by simp [shut] at h
  | .ifb true t, x, σ', h => by
    simp only [shut] at h
    obtain ⟨h1, h2⟩ := shut_free t h
    exact ⟨h1, fun σ => by simp only [shut]; exact h2 σ⟩
  | .ifb false t, x, σ', h => by simp [shut] at h
theorem shutAll_free : ∀ (cs : List TV) {xs : List IV} {σ' : Slots}, shutAll cs [] = some (xs, σ') → σ' = [] ∧ ∀ σ, shutAll cs σ = some (xs, σ)
  | [], xs, σ', h => by simp [shutAll] at h; obtain ⟨rfl, rfl⟩ := h; exact ⟨rfl, fun σ => rfl⟩
  | c :: cs, xs, σ', h => by
    simp only [shutAll] at h
    split at h
    · rename_i x σ1 h1
      obtain ⟨h2, h3⟩ := shut_free c h1
      subst h2
      split at h
      · rename_i ys σ2 h4
        simp at h; obtain ⟨rfl, rfl⟩ := h
        obtain ⟨h5, h6⟩ := shutAll_free cs h4
        exact ⟨h5, fun σ => by simp only [shutAll, h3 σ, h6 σ]⟩
      · cases h
    · cases h
end

theorem upd_ne {σ : Slots} {k : Nat} {a : Nat × Item} : upd σ k a ≠ [] := by
  cases σ with
  | nil => simp [upd]
  | cons x σ => obtain ⟨j, b⟩ := x; simp only [upd]; split <;> simp

theorem aop_free {ρ : List (Nat × TV)} {o : AOp} {r : TV} (h : aop ρ [] o = some (r, [])) (σ : Slots) : aop ρ σ o = some (r, σ) := by
  cases o
  case call f as_ => simp [aop] at h
  case callv x as_ => simp [aop] at h
  all_goals simp only [aop] at h ⊢
  case mov x => split at h <;> simp_all
  case pick c x y =>
    split at h
    · split at h
      · simp_all
      · cases h
    · cases h
  case pickb c x y =>
    split at h
    · split at h
      · simp_all
      · cases h
    · cases h
  case bin tb op x y =>
    split at h
    · split at h
      · cases h
      · rename_i hb; rw [if_neg hb]
        split at h
        · simp_all
        · cases h
    · cases h
  case un op x =>
    split at h
    · split at h
      · simp_all
      · cases h
    · cases h
  case conv k x => split at h <;> simp_all
  case ext i x =>
    split at h
    · split at h
      · simp_all
      · cases h
    · split at h
      · simp_all
      · cases h
    · cases h
  case len str x =>
    split at h
    · split at h
      · rename_i hs; rw [if_pos hs]
        split at h
        · rename_i n hn; rw [lenOf_free hn σ]; simp_all
        · split at h
          · cases h
          · split at h
            · rename_i n hn; exact (lenT_free hn).elim
            · cases h
      · cases h
    · cases h
  case idxA sz x y =>
    split at h
    · split at h
      · rename_i h0; rw [if_pos h0]
        split at h
        · split at h
          · rename_i hz; rw [if_pos hz]; simp_all
          · cases h
        · cases h
      · cases h
    · split at h
      · rename_i r' hr; exact (idxL_free hr).elim
      · cases h
    · cases h
  case idxS x y =>
    split at h
    · split at h
      · rename_i h0; rw [if_pos h0]
        split at h
        · simp_all
        · cases h
      · cases h
    · cases h
  case fldA off sz ag x =>
    split at h
    · split at h
      · simp_all
      · cases h
    · cases h
  case fld off sz ag x =>
    split at h
    · split at h
      · simp_all
      · cases h
    · cases h
  case load sz ag x =>
    split at h
    · split at h
      · rename_i r' hr; rw [loadOf_free hr σ]; simp_all
      · split at h
        · rename_i r' hr; exact (loadT_free hr).elim
        · cases h
    · cases h
  case store sz x y =>
    split at h
    · split at h
      · rename_i h1; exact (storeOf_free h1).elim
      · split at h
        · rename_i h1; exact (storeT_free h1).elim
        · cases h
    · cases h
  case boxI x =>
    split at h
    · split at h
      · cases h
      · rename_i y σ1 hne hy
        obtain ⟨h1, h2⟩ := shut_free _ hy
        simp at h; obtain ⟨rfl, rfl⟩ := h
        rw [h2 σ]
        split
        · rename_i e; simp at e; exact (hne _ e.1).elim
        · rename_i e; simp at e; simp [e]
        · rename_i e; cases e
      · cases h
    · cases h
  case box k x =>
    split at h
    · split at h
      · simp at h; exact absurd h.2 upd_ne
      · cases h
    · cases h
  case alloc k zs => simp at h; exact absurd h.2 upd_ne
  case build zs ps =>
    split at h
    · rename_i cs hc; rw [fillTV_free σ hc]; simp_all
    · cases h
  case bslice sz xs =>
    split at h
    · split at h
      · rename_i ys σ1 hs
        obtain ⟨h1, h2⟩ := shutAll_free _ hs
        rw [h2 σ]
        split at h
        · rename_i ho; simp only [ho, if_true]; simp_all
        · cases h
      · cases h
    · cases h
  case slc sz x lo hi mx =>
    split at h
    · split at h
      · rename_i xs σ1 hs
        obtain ⟨h1, h2⟩ := shut_free _ hs
        rw [h2 σ]
        split at h
        · rename_i ho; simp only [ho, if_true]
          split at h
          · simp_all
          · cases h
        · cases h
      · cases h
    · cases h
  case slcP k sz x hi =>
    split at h
    · split at h
      · split at h
        · simp at h; exact absurd h.2 upd_ne
        · cases h
      · cases h
    · cases h
  case slcQ sz x hi =>
    split at h
    · simp [lk] at h
    · cases h
  case slcH sz x hi =>
    split at h
    · simp [lk] at h
    · split at h
      · rename_i hnz
        split at h
        · rename_i hc; simp only [hc, if_true]; simp_all
        · cases h
      · cases h
    · cases h
  case slcT p sz x lo =>
    split at h
    · simp [lk] at h
    · split at h
      · rename_i hnz
        split at h
        · rename_i hc; simp only [hc, if_true]; simp_all
        · cases h
      · cases h
    · cases h
  case clr sz y x =>
    split at h
    · simp [lk] at h
    · simp [lk] at h
    · cases h
  case slcL sz x lo hi mx =>
    split at h
    · simp [lk] at h
    · cases h
  case appD sz x y =>
    split at h
    · simp [lk] at h
    · cases h
  case bad => cases h
  case panicA x => cases h
  case eqnil ng x =>
    split at h
    · simp_all
    · simp_all
    · cases h
  case mkif t x =>
    split at h
    · simp_all
    · cases h
  case tas t z x =>
    split at h
    · simp_all
    · simp_all
    · cases h
  case storeS sz x y =>
    split at h
    · split at h
      · split at h
        · rename_i z σ1 hz
          obtain ⟨h1, h2⟩ := shut_free _ hz
          subst h1
          split at h
          · rename_i h1; exact (storeOf_free h1).elim
          · split at h
            · rename_i h1; exact (storeT_free h1).elim
            · cases h
        · cases h
      · cases h
    · cases h
  case slcS x lo hi =>
    split at h
    · split at h
      · simp_all
      · cases h
    · cases h
  case app k0 e sz bytes x y =>
    split at h
    · split at h
      · split at h
        · split at h
          · simp at h; exact absurd h.2 upd_ne
          · cases h
        · cases h
      · split at h
        · split at h
          · simp at h; exact absurd h.2 upd_ne
          · cases h
        · cases h
    · cases h
  case b2s x =>
    split at h
    · split at h
      · rename_i xs hx; rw [srcOf_free hx σ]
        split at h
        · simp_all
        · cases h
      · cases h
    · cases h
  case nilck x =>
    split at h
    · split at h
      · rename_i hn; rw [if_pos hn]; simp_all
      · cases h
    · cases h
  case mks k e sz bytes y x c =>
    split at h
    · split at h
      · simp at h; exact absurd h.2 upd_ne
      · cases h
    · cases h
  case blist k e sz => simp at h; exact absurd h.2 upd_ne
  case mkmap k kd => simp at h; exact absurd h.2 upd_ne
  case blit k e sz xs =>
    split at h
    · split at h
      · simp at h; exact absurd h.2 upd_ne
      · cases h
    · cases h
  case lenm x =>
    split at h
    · split at h
      · rename_i n hn; rw [lenM_free hn σ]; simp_all
      · cases h
    · cases h
  case look kd z ok x y =>
    split at h
    · split at h
      · rename_i r' hr; rw [lookOf_free hr σ]; simp_all
      · cases h
    · cases h
  case mapset kd x y z =>
    split at h
    · split at h
      · rename_i h1; exact (mapsetOf_free h1).elim
      · cases h
    · cases h
  case mkfn f fs cs => split at h <;> simp_all
  case arrV len sz ag x y =>
    split at h
    · split at h
      · rename_i hn; rw [if_pos hn]
        split at h
        · simp_all
        · cases h
      · cases h
    · cases h
  case arrA len sz x y =>
    split at h
    · split at h
      · rename_i hn; rw [if_pos hn]
        split at h
        · simp_all
        · cases h
      · cases h
    · cases h
  case mm isMax x y => split at h <;> simp_all
  case eqs ks ng x y =>
    split at h
    · split at h
      · simp_all
      · cases h
    · cases h

end Go.Proofs.YtdlgenppdgkacaaGreatDoor.Ag
