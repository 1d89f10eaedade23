/- The reference's changes: lists that are handed on; labels, a field. -/
import Derived.Test.YtmdkcapbahjipaaDoorTU4
import Derived.Test.YtmdkcapbahjipaaDoorTAirH
set_option linter.unusedVariables false
set_option linter.unusedSimpArgs false
set_option maxRecDepth 100000
set_option maxHeartbeats 8000000
open List renaming map_cons → zl0, map_nil → zl1, zipIdx_cons → zl2, zipIdx_nil → zl3
open Nat renaming reduceEqDiff → zn0, reduceAdd → zn1, reduceSub → zn2, reduceLeDiff → zn3, reduceMul → zn4, reduceBEq → zn5, reducePow → zn6, reduceLT → zn7, reduceDiv → zn8, reduceMod → zn9
open Int renaming reduceLT → zi0, reduceLE → zi1, reduceNeg → zi2, reduceEq → zi3, reduceToNat → zi4
attribute [local go_sem] Go.Proofs.YtmdkcapbahjipaaDoor.Ag.i_cartoucheref7_Find Go.Proofs.YtmdkcapbahjipaaDoor.Ag.i_cartoucheref18_enum Go.Proofs.YtmdkcapbahjipaaDoor.Ag.i_cartoucheref18_message
namespace Go.Proofs.YtmdkcapbahjipaaDoor.Ag
attribute [-go_sem] Int.not_lt Int.not_le
attribute [-go_sem] nxt
def LstP (σ : Slots) (n : Nat) (l : List Chg) : Prop := lk σ 1 = some (n, .list 101 4 (outs l))
def appL (σ : Slots) (n : Nat) (l cs : List Chg) : Slots := match cs with
  | [] => σ
  | _ :: _ => upd σ 1 (n + cs.length, .list 101 4 (outs (l ++ cs)))
theorem appL_at {σ : Slots} {n : Nat} {l : List Chg} (cs : List Chg) (h : LstP σ n l) : LstP (appL σ n l cs) (n + cs.length) (l ++ cs) := by
  unfold LstP at *
  cases cs with
  | nil => simpa [appL] using h
  | cons c cs => simp [appL, lk_upd]
theorem appL_lk {σ : Slots} {n : Nat} {l cs : List Chg} {q : Nat} (h : ¬ q = 1) : lk (appL σ n l cs) q = lk σ q := by
  cases cs with
  | nil => rfl
  | cons c cs => simp [appL, lk_upd, Ne.symm h, fun e : 1 = q => h e.symm]
theorem appL_appL {σ : Slots} {n : Nat} {l : List Chg} (cs ds : List Chg) (h : LstP σ n l) : appL (appL σ n l cs) (n + cs.length) (l ++ cs) ds = appL σ n l (cs ++ ds) := by
  cases cs with
  | nil => simp [appL]
  | cons c cs =>
    cases ds with
    | nil => simp [appL]
    | cons d ds =>
      have e : n + (c :: cs).length + (d :: ds).length = n + (c :: (cs ++ d :: ds)).length := by simp only [List.length_cons, List.length_append]; omega
      simp only [appL, List.cons_append, upd_upd, List.append_assoc]
      rw [e]
theorem SameD.app {d : Nat → Bool} {σ τ : Slots} {n : Nat} {l cs : List Chg} (h : SameD d σ τ) : SameD d (appL σ n l cs) (appL τ n l cs) := by
  cases cs with
  | nil => exact h
  | cons c cs =>
    intro q hq
    simp only [appL, lk_upd, h q hq]
theorem SameD.lst {d : Nat → Bool} {σ τ : Slots} {n : Nat} {l : List Chg} (h : SameD d σ τ) (hd : d 1 = false) (hl : LstP τ n l) : LstP σ n l := by
  unfold LstP at *; rw [h 1 hd]; exact hl
theorem nxtL {d : Nat → Bool} {σ τ : Slots} {n : Nat} {l cs : List Chg} (hτ : LstP τ n l) (hs : SameD d σ (appL τ n l cs)) (hd : d 1 = false) (c : Chg) : nxt σ 1 = n + (cs ++ [c]).length := by
  have := (hs.lst hd (appL_at cs hτ))
  unfold LstP at this
  simp only [nxt, this, List.length_append, List.length_cons, List.length_nil]; omega
theorem SameD.step {d : Nat → Bool} {σ τ : Slots} {n : Nat} {l cs : List Chg} (hτ : LstP τ n l) (hs : SameD d σ (appL τ n l cs)) (hd : d 1 = false) (c : Chg) :
    SameD d (upd σ 1 (nxt σ 1, .list 101 4 (outs (l ++ cs) ++ [encChg c]))) (appL τ n l (cs ++ [c])) := by
  rw [nxtL hτ hs hd c, ← appL_appL cs [c] hτ]
  intro q hq
  have e : n + (cs ++ [c]).length = n + cs.length + [c].length := by simp; omega
  rw [e]
  simp only [appL, lk_upd]
  split
  · simp [outs]
  · exact hs q hq
theorem appL_drop {d : Nat → Bool} {σ : Slots} {n : Nat} {l cs : List Chg} (hd : ∀ q, d q = true → lk σ q = none) (h1 : d 1 = false) {σ' : Slots} (h : SameD d σ' (appL σ n l cs)) (q : Nat) : lk (appL σ n l cs) q = if d q then none else lk σ' q := by
  cases hq : d q with
  | true =>
    have h2 : ¬ q = 1 := fun e => by subst e; rw [hq] at h1; cases h1
    rw [appL_lk h2, hd q hq]; rfl
  | false => rw [h q hq]; rfl
def dR (q : Nat) : Bool := decide (60 ≤ q ∧ q ≤ 69)
def Aw (σ : Slots) : Prop := ∀ q n it, lk σ q = some (n, it) → avI dR it = true
theorem Aw.up {σ : Slots} (h : Aw σ) {q n : Nat} {it : Item} (hi : avI dR it = true) : Aw (upd σ q (n, it)) := by
  intro p m jt hp
  rw [lk_upd] at hp
  split at hp
  · simp only [Option.some.injEq, Prod.mk.injEq] at hp; obtain ⟨_, rfl⟩ := hp; exact hi
  · exact h p m jt hp
theorem Aw.app {σ : Slots} (h : Aw σ) {n : Nat} {l cs : List Chg} : Aw (appL σ n l cs) := by
  cases cs with
  | nil => exact h
  | cons c cs => exact h.up rfl
theorem Aw.to {σ : Slots} (h : Aw σ) {e : Nat → Bool} (he : ∀ q, e q = true → dR q = true) : ∀ q n it, lk σ q = some (n, it) → avI e it = true := fun q n it hq => avI_mono he (h q n it hq)
theorem outs_len (l : List Chg) : (outs l).length = l.length := by simp [outs]
def labB (x y : FT) : Bool := if x.label ≤ 1 ∧ y.label ≤ 1 then decide (x.kind ≠ 17) && decide (y.kind ≠ 17) else decide (x.label = 2 ∨ x.label = 3) && decide (y.label = 2 ∨ y.label = 3)
theorem ref18_labels_fc (x y : FT) : FC Tryd.prog i_cartoucheref18_labels [encFT x, encFT y] (· = .bool (labB x y)) := by
  (refine FC.vc (EnvOk.noneS) F_cartoucheref18_labels T_cartoucheref18_labels L_cartoucheref18_labels ?_; unfold A_cartoucheref18_labels; simp only [args0, zl0, zl1, zl2, zl3, zn1])
  (simp -implicitDefEqProofs +contextual (maxSteps := 8000000) only [go_sem, ↓reduceIte, zn0, zn1, zn2, zn3, zn4, reduceCtorEq, zn5, zi0, zi1, zi2, zi3, zi4, zn6, zn7, zn8, zn9, encFT])
  (repeat' (first | (refine And.intro ?_ ?_) | (intro _)))
  all_goals grind (splits := 40) [labB]
theorem labB_relB {x y : FT} (hx : 0 ≤ x.label) (hy : 0 ≤ y.label) (h : x.label ≠ y.label) : labB x y = relB x y := by
  simp only [labB, relB, eitherB]
  grind (splits := 40)
open Classical
noncomputable def g_cartoucheref18_labels : List IV → Option IV
  | [x_, y_] => (match decFT x_ with
    | some x => (match decFT y_ with
    | some y => some (.bool (labB x y))
    | none => none)
    | none => none)
  | _ => none
theorem g_cartoucheref18_labels_is (x : FT) (y : FT) : g_cartoucheref18_labels [encFT x, encFT y] = some (.bool (labB x y)) := by
  simp only [g_cartoucheref18_labels, decFT_enc, decFT_enc]
theorem g_cartoucheref18_labels_ok : ∀ xs r, g_cartoucheref18_labels xs = some r → FC Tryd.prog i_cartoucheref18_labels xs (· = r) := by
  intro xs r h
  unfold g_cartoucheref18_labels at h
  split at h
  · rename_i x_ y_
    split at h
    · rename_i x hx
      split at h
      · rename_i y hy
        injection h with h; subst h
        have := decFT_enc_inv hx; subst this
        have := decFT_enc_inv hy; subst this
        exact ref18_labels_fc x y
      · cases h
    · cases h
  · cases h

end Go.Proofs.YtmdkcapbahjipaaDoor.Ag
namespace Go.Proofs.YtmdkcapbahjipaaDoor.Ag
attribute [-go_sem] Int.not_lt Int.not_le
attribute [-go_sem] nxt
attribute [-go_sem] vcXG_bool
noncomputable def envRfd : Env := { split := true, fc := [(i_cartoucheref18_Wider, g_cartoucheref18_Wider), (i_cartoucheref18_labels, g_cartoucheref18_labels)] }
theorem envRfd_ok : EnvOk Tryd.prog envRfd := (EnvOk.noneS.addF g_cartoucheref18_labels_ok).addF g_cartoucheref18_Wider_ok
def rfA : ACode := sq1 (sq2 A_cartoucheref18_field.code)
def rfB : ACode := sq1 (sq2 (sq2 A_cartoucheref18_field.code))
def rfC : ACode := sq1 (sq2 (sq2 (sq2 A_cartoucheref18_field.code)))
def rfD : ACode := sq1 (sq2 (sq2 (sq2 (sq2 A_cartoucheref18_field.code))))
def rfE : ACode := sq2 (sq2 (sq2 (sq2 (sq2 A_cartoucheref18_field.code))))
open Classical in
noncomputable def fcC1 (x y : Ty) (f g : FT) : List Chg := if f.label = g.label then (if f.label = 4 ∧ ooAt x.oneofs f.oneof ≠ ooAt y.oneofs g.oneof then [⟨4, 9, x.name, f.number⟩] else []) else [⟨clsN (relB f g), 9, x.name, f.number⟩]
open Classical in
noncomputable def fcC2 (x : Ty) (f g : FT) : List Chg := if f.label = 5 ∧ g.label = 5 ∧ f.key ≠ g.key then [⟨4, 8, x.name, f.number⟩] else []
theorem fcC_split (x y : Ty) (f g : FT) : fcC x y f g = fcC1 x y f g ++ fcC2 x f g := by
  unfold fcC fcC1 fcC2
  by_cases h : f.label = g.label
  · by_cases h4 : g.label = 4
    · by_cases ho : ooAt x.oneofs f.oneof = ooAt y.oneofs g.oneof <;> simp [h, h4, ho]
    · by_cases h5 : g.label = 5
      · by_cases hk : f.key = g.key <;> simp [h, h5, hk]
      · simp [h, h4, h5]
  · have : ¬ (f.label = 5 ∧ g.label = 5 ∧ f.key ≠ g.key) := fun e => h (e.1.trans e.2.1.symm)
    simp [h, this]
def dNo (q : Nat) : Bool := false
structure RfS (a b : List Ty) (x y : Ty) (f g : FT) (τ : Slots) (n : Nat) (l cs : List Chg) (s : St) : Prop where
  p0 : lk s.ρ 0 = some (.lst 1 (n + cs.length))
  p8 : lk s.ρ 8 = some (.iv (.ref (encTable a)))
  p9 : lk s.ρ 9 = some (.iv (.ref (encTable b)))
  p10 : lk s.ρ 10 = some (.iv (.ref (encTy x)))
  p11 : lk s.ρ 11 = some (.iv (.ref (encTy y)))
  p12 : lk s.ρ 12 = some (.iv (.ref (encFT f)))
  p13 : lk s.ρ 13 = some (.iv (.ref (encFT g)))
  same : SameD dNo s.σ (appL τ n l cs)
section
variable {a b : List Ty} {x y : Ty} {f g : FT} {τ : Slots} {n : Nat} {l cs : List Chg} {Q : AEx → St → Prop} {s : St}
theorem RfS.next (h : RfS a b x y f g τ n l cs s) (hτ : LstP τ n l) (c : Chg) {s' : St} (hσ : s'.σ = upd s.σ 1 (nxt s.σ 1, .list 101 4 (outs (l ++ cs) ++ [encChg c])))
    (h0 : lk s'.ρ 0 = some (.lst 1 (nxt s.σ 1))) (h8 : lk s'.ρ 8 = lk s.ρ 8) (h9 : lk s'.ρ 9 = lk s.ρ 9) (h10 : lk s'.ρ 10 = lk s.ρ 10) (h11 : lk s'.ρ 11 = lk s.ρ 11) (h12 : lk s'.ρ 12 = lk s.ρ 12) (h13 : lk s'.ρ 13 = lk s.ρ 13) : RfS a b x y f g τ n l (cs ++ [c]) s' := by
  refine ⟨?_, h8 ▸ h.p8, h9 ▸ h.p9, h10 ▸ h.p10, h11 ▸ h.p11, h12 ▸ h.p12, h13 ▸ h.p13, ?_⟩
  · rw [h0, nxtL hτ h.same rfl c]
  · rw [hσ]; exact h.same.step hτ rfl c
theorem RfS.keep (h : RfS a b x y f g τ n l cs s) {s' : St} (hσ : s'.σ = s.σ)
    (h0 : lk s'.ρ 0 = lk s.ρ 0) (h8 : lk s'.ρ 8 = lk s.ρ 8) (h9 : lk s'.ρ 9 = lk s.ρ 9) (h10 : lk s'.ρ 10 = lk s.ρ 10) (h11 : lk s'.ρ 11 = lk s.ρ 11) (h12 : lk s'.ρ 12 = lk s.ρ 12) (h13 : lk s'.ρ 13 = lk s.ρ 13) : RfS a b x y f g τ n l (cs ++ []) s' := by
  rw [List.append_nil]
  exact ⟨h0 ▸ h.p0, h8 ▸ h.p8, h9 ▸ h.p9, h10 ▸ h.p10, h11 ▸ h.p11, h12 ▸ h.p12, h13 ▸ h.p13, hσ ▸ h.same⟩
theorem rfA_vc (h : RfS a b x y f g τ n l cs s) (hl : l.length ≤ 2000000000000) (hcs : cs.length ≤ 10) (hτ : LstP τ n l)
    (hQ : ∀ s', RfS a b x y f g τ n l (cs ++ fcA x f g) s' → Q .normal s') : vc envRfd rfA Q s := by
  have hcap2 : (l.length + cs.length + 1) * 40 ≤ 140737488355328 := by omega
  have p0 := h.p0; have p8 := h.p8; have p9 := h.p9; have p10 := h.p10; have p11 := h.p11; have p12 := h.p12; have p13 := h.p13
  have k1 := h.same.lst (by decide) (appL_at cs hτ)
  unfold LstP at k1
  simp only [encTy, encFT, encTable] at p8 p9 p10 p11 p12 p13
  have hol := outs_len (l ++ cs)
  have hcap : ((l ++ cs).length + 1) * 40 ≤ 140737488355328 := by rw [List.length_append]; exact hcap2
  simp only [rfA, A_cartoucheref18_field, sq1, sq2]
  by_cases hn : f.name = g.name
  · rw [show fcA x f g = [] by simp [fcA, hn]] at hQ
    (simp -implicitDefEqProofs +contextual (maxSteps := 8000000) only [go_sem, ↓reduceIte, zn0, zn1, zn2, zn3, zn4, reduceCtorEq, zn5, zi0, zi1, zi2, zi3, zi4, zn6, zn7, zn8, zn9, envRfd, p0, p8, p9, p10, p11, p12, p13, k1, hol, hcap, hn])
    exact hQ _ (h.keep rfl (by simp [lk]) (by simp [lk]) (by simp [lk]) (by simp [lk]) (by simp [lk]) (by simp [lk]) (by simp [lk]))
  · rw [show fcA x f g = [⟨3, 7, x.name, f.number⟩] by simp [fcA, hn]] at hQ
    (simp -implicitDefEqProofs +contextual (maxSteps := 8000000) only [go_sem, ↓reduceIte, zn0, zn1, zn2, zn3, zn4, reduceCtorEq, zn5, zi0, zi1, zi2, zi3, zi4, zn6, zn7, zn8, zn9, envRfd, p0, p8, p9, p10, p11, p12, p13, k1, hol, hcap, hn])
    exact ⟨hcap2, hQ _ (h.next hτ ⟨3, 7, x.name, f.number⟩ rfl (by simp [lk]) (by simp [lk]) (by simp [lk]) (by simp [lk]) (by simp [lk]) (by simp [lk]) (by simp [lk]))⟩
theorem rfB_vc (h : RfS a b x y f g τ n l cs s) (hl : l.length ≤ 2000000000000) (hcs : cs.length ≤ 10) (hτ : LstP τ n l) (hk17 : g.kind ≤ 17)
    (hf : (f.kind = 16 ∨ f.kind = 17) → 0 ≤ f.ref ∧ ∃ z, a[f.ref.toNat]? = some z) (hg : (g.kind = 16 ∨ g.kind = 17) → 0 ≤ g.ref ∧ ∃ z, b[g.ref.toNat]? = some z)
    (hQ : ∀ s', RfS a b x y f g τ n l (cs ++ fcB a b x f g) s' → Q .normal s') : vc envRfd rfB Q s := by
  have hcap2 : (l.length + cs.length + 1) * 40 ≤ 140737488355328 := by omega
  have p0 := h.p0; have p8 := h.p8; have p9 := h.p9; have p10 := h.p10; have p11 := h.p11; have p12 := h.p12; have p13 := h.p13
  have k1 := h.same.lst (by decide) (appL_at cs hτ)
  unfold LstP at k1
  simp only [encTy, encFT, encTable] at p8 p9 p10 p11 p12 p13
  have hol := outs_len (l ++ cs)
  have hcap : ((l ++ cs).length + 1) * 40 ≤ 140737488355328 := by rw [List.length_append]; exact hcap2
  simp only [rfB, A_cartoucheref18_field, sq1, sq2]
  by_cases hk : f.kind = g.kind
  · by_cases hr : f.kind = 16 ∨ f.kind = 17
    · obtain ⟨f0, za, hza⟩ := hf hr
      obtain ⟨g0, zb, hzb⟩ := hg (hk ▸ hr)
      have hma := get_map (f := encTy) hza
      have hmb := get_map (f := encTy) hzb
      simp only [encTy] at hma hmb
      have hla : f.ref < (a.length : Int) := by have := (List.getElem?_eq_some_iff.1 hza).1; omega
      have hlb : g.ref < (b.length : Int) := by have := (List.getElem?_eq_some_iff.1 hzb).1; omega
      have hna : nameAt a f.ref = za.name := by simp [nameAt, hza]
      have hnb : nameAt b g.ref = zb.name := by simp [nameAt, hzb]
      have hk16 : g.kind = 16 ∨ g.kind = 17 := hk ▸ hr
      have hge : 16 ≤ g.kind := by omega
      by_cases hn : za.name = zb.name
      · rw [show fcB a b x f g = [] by simp [fcB, hk, hna, hnb, hn]] at hQ
        (simp -implicitDefEqProofs +contextual (maxSteps := 8000000) only [go_sem, ↓reduceIte, zn0, zn1, zn2, zn3, zn4, reduceCtorEq, zn5, zi0, zi1, zi2, zi3, zi4, zn6, zn7, zn8, zn9, envRfd, p0, p8, p9, p10, p11, p12, p13, k1, hol, hcap, vcXG_tt, vcXG_ff, vcXG_tf, vcXG_ft, hk, hge, f0, g0, hla, hlb, hma, hmb, hn, forall_eq'])
        exact hQ _ (h.keep rfl (by simp [lk]) (by simp [lk]) (by simp [lk]) (by simp [lk]) (by simp [lk]) (by simp [lk]) (by simp [lk]))
      · rw [show fcB a b x f g = [⟨4, 8, x.name, f.number⟩] by simp [fcB, hk, hk16, hna, hnb, hn]] at hQ
        (simp -implicitDefEqProofs +contextual (maxSteps := 8000000) only [go_sem, ↓reduceIte, zn0, zn1, zn2, zn3, zn4, reduceCtorEq, zn5, zi0, zi1, zi2, zi3, zi4, zn6, zn7, zn8, zn9, envRfd, p0, p8, p9, p10, p11, p12, p13, k1, hol, hcap, vcXG_tt, vcXG_ff, vcXG_tf, vcXG_ft, hk, hge, f0, g0, hla, hlb, hma, hmb, hn, forall_eq'])
        exact ⟨hcap2, hQ _ (h.next hτ ⟨4, 8, x.name, f.number⟩ rfl (by simp [lk]) (by simp [lk]) (by simp [lk]) (by simp [lk]) (by simp [lk]) (by simp [lk]) (by simp [lk]))⟩
    · rw [show fcB a b x f g = [] by simp only [fcB, if_pos hk, if_neg (fun h : (f.kind = 16 ∨ f.kind = 17) ∧ _ => hr h.1)]] at hQ
      have hge : ¬ 16 ≤ g.kind := by rw [hk] at hr; omega
      (simp -implicitDefEqProofs +contextual (maxSteps := 8000000) only [go_sem, ↓reduceIte, zn0, zn1, zn2, zn3, zn4, reduceCtorEq, zn5, zi0, zi1, zi2, zi3, zi4, zn6, zn7, zn8, zn9, envRfd, p0, p8, p9, p10, p11, p12, p13, k1, hol, hcap, vcXG_tt, vcXG_ff, vcXG_tf, vcXG_ft, hk, hge])
      exact hQ _ (h.keep rfl (by simp [lk]) (by simp [lk]) (by simp [lk]) (by simp [lk]) (by simp [lk]) (by simp [lk]) (by simp [lk]))
  · have hwd := g_cartoucheref18_Wider_is f.kind g.kind
    cases hb : widerB f.kind g.kind with
    | true =>
      rw [hb] at hwd
      rw [show fcB a b x f g = [⟨3, 8, x.name, f.number⟩] by simp [fcB, hk, hb, clsN]] at hQ
      (simp -implicitDefEqProofs +contextual (maxSteps := 8000000) only [go_sem, ↓reduceIte, zn0, zn1, zn2, zn3, zn4, reduceCtorEq, zn5, zi0, zi1, zi2, zi3, zi4, zn6, zn7, zn8, zn9, envRfd, p0, p8, p9, p10, p11, p12, p13, k1, hol, hcap, hk, hwd, i_cartoucheref18_Wider, i_cartoucheref18_labels])
      exact ⟨hcap2, hQ _ (h.next hτ ⟨3, 8, x.name, f.number⟩ rfl (by simp [lk]) (by simp [lk]) (by simp [lk]) (by simp [lk]) (by simp [lk]) (by simp [lk]) (by simp [lk]))⟩
    | false =>
      rw [hb] at hwd
      rw [show fcB a b x f g = [⟨4, 8, x.name, f.number⟩] by simp [fcB, hk, hb, clsN]] at hQ
      (simp -implicitDefEqProofs +contextual (maxSteps := 8000000) only [go_sem, ↓reduceIte, zn0, zn1, zn2, zn3, zn4, reduceCtorEq, zn5, zi0, zi1, zi2, zi3, zi4, zn6, zn7, zn8, zn9, envRfd, p0, p8, p9, p10, p11, p12, p13, k1, hol, hcap, hk, hwd, i_cartoucheref18_Wider, i_cartoucheref18_labels])
      exact ⟨hcap2, hQ _ (h.next hτ ⟨4, 8, x.name, f.number⟩ rfl (by simp [lk]) (by simp [lk]) (by simp [lk]) (by simp [lk]) (by simp [lk]) (by simp [lk]) (by simp [lk]))⟩
theorem rfC_vc (h : RfS a b x y f g τ n l cs s) (hl : l.length ≤ 2000000000000) (hcs : cs.length ≤ 10) (hτ : LstP τ n l) (hfl : 0 ≤ f.label) (hgl : 0 ≤ g.label)
    (hf : f.label = 4 → 0 ≤ f.oneof ∧ ∃ z, x.oneofs[f.oneof.toNat]? = some z) (hg : g.label = 4 → 0 ≤ g.oneof ∧ ∃ z, y.oneofs[g.oneof.toNat]? = some z)
    (hQ : ∀ s', RfS a b x y f g τ n l (cs ++ fcC1 x y f g) s' → Q .normal s') : vc envRfd rfC Q s := by
  have hcap2 : (l.length + cs.length + 1) * 40 ≤ 140737488355328 := by omega
  have p0 := h.p0; have p8 := h.p8; have p9 := h.p9; have p10 := h.p10; have p11 := h.p11; have p12 := h.p12; have p13 := h.p13
  have k1 := h.same.lst (by decide) (appL_at cs hτ)
  unfold LstP at k1
  simp only [encTy, encFT, encTable] at p8 p9 p10 p11 p12 p13
  have hol := outs_len (l ++ cs)
  have hcap : ((l ++ cs).length + 1) * 40 ≤ 140737488355328 := by rw [List.length_append]; exact hcap2
  have hlab := g_cartoucheref18_labels_is f g
  simp only [encFT] at hlab
  simp only [rfC, A_cartoucheref18_field, sq1, sq2]
  by_cases hk : f.label = g.label
  · by_cases h4 : g.label = 4
    · obtain ⟨f0, za, hza⟩ := hf (hk.trans h4)
      obtain ⟨g0, zb, hzb⟩ := hg h4
      have hma := get_map (f := IV.str) hza
      have hmb := get_map (f := IV.str) hzb
      have hla : f.oneof < (x.oneofs.length : Int) := by have := (List.getElem?_eq_some_iff.1 hza).1; omega
      have hlb : g.oneof < (y.oneofs.length : Int) := by have := (List.getElem?_eq_some_iff.1 hzb).1; omega
      have hna : ooAt x.oneofs f.oneof = za := by simp [ooAt, hza]
      have hnb : ooAt y.oneofs g.oneof = zb := by simp [ooAt, hzb]
      by_cases hn : za = zb
      · rw [show fcC1 x y f g = [] by simp [fcC1, hk, hna, hnb, hn]] at hQ
        (simp -implicitDefEqProofs +contextual (maxSteps := 8000000) only [go_sem, ↓reduceIte, zn0, zn1, zn2, zn3, zn4, reduceCtorEq, zn5, zi0, zi1, zi2, zi3, zi4, zn6, zn7, zn8, zn9, envRfd, p0, p8, p9, p10, p11, p12, p13, k1, hol, hcap, vcXG_tt, vcXG_ff, vcXG_tf, vcXG_ft, hk, h4, f0, g0, hla, hlb, hma, hmb, hn, forall_eq'])
        exact hQ _ (h.keep rfl (by simp [lk]) (by simp [lk]) (by simp [lk]) (by simp [lk]) (by simp [lk]) (by simp [lk]) (by simp [lk]))
      · rw [show fcC1 x y f g = [⟨4, 9, x.name, f.number⟩] by simp [fcC1, hk, h4, hna, hnb, hn]] at hQ
        (simp -implicitDefEqProofs +contextual (maxSteps := 8000000) only [go_sem, ↓reduceIte, zn0, zn1, zn2, zn3, zn4, reduceCtorEq, zn5, zi0, zi1, zi2, zi3, zi4, zn6, zn7, zn8, zn9, envRfd, p0, p8, p9, p10, p11, p12, p13, k1, hol, hcap, vcXG_tt, vcXG_ff, vcXG_tf, vcXG_ft, hk, h4, f0, g0, hla, hlb, hma, hmb, hn, forall_eq'])
        exact ⟨hcap2, hQ _ (h.next hτ ⟨4, 9, x.name, f.number⟩ rfl (by simp [lk]) (by simp [lk]) (by simp [lk]) (by simp [lk]) (by simp [lk]) (by simp [lk]) (by simp [lk]))⟩
    · rw [show fcC1 x y f g = [] by simp [fcC1, hk, h4]] at hQ
      (simp -implicitDefEqProofs +contextual (maxSteps := 8000000) only [go_sem, ↓reduceIte, zn0, zn1, zn2, zn3, zn4, reduceCtorEq, zn5, zi0, zi1, zi2, zi3, zi4, zn6, zn7, zn8, zn9, envRfd, p0, p8, p9, p10, p11, p12, p13, k1, hol, hcap, vcXG_tt, vcXG_ff, vcXG_tf, vcXG_ft, hk, h4])
      exact hQ _ (h.keep rfl (by simp [lk]) (by simp [lk]) (by simp [lk]) (by simp [lk]) (by simp [lk]) (by simp [lk]) (by simp [lk]))
  · have hlr := labB_relB hfl hgl hk
    rw [hlr] at hlab
    cases hb : relB f g with
    | true =>
      rw [hb] at hlab
      rw [show fcC1 x y f g = [⟨3, 9, x.name, f.number⟩] by simp [fcC1, hk, hb, clsN]] at hQ
      (simp -implicitDefEqProofs +contextual (maxSteps := 8000000) only [go_sem, ↓reduceIte, zn0, zn1, zn2, zn3, zn4, reduceCtorEq, zn5, zi0, zi1, zi2, zi3, zi4, zn6, zn7, zn8, zn9, envRfd, p0, p8, p9, p10, p11, p12, p13, k1, hol, hcap, hk, hlab, i_cartoucheref18_Wider, i_cartoucheref18_labels])
      exact ⟨hcap2, hQ _ (h.next hτ ⟨3, 9, x.name, f.number⟩ rfl (by simp [lk]) (by simp [lk]) (by simp [lk]) (by simp [lk]) (by simp [lk]) (by simp [lk]) (by simp [lk]))⟩
    | false =>
      rw [hb] at hlab
      rw [show fcC1 x y f g = [⟨4, 9, x.name, f.number⟩] by simp [fcC1, hk, hb, clsN]] at hQ
      (simp -implicitDefEqProofs +contextual (maxSteps := 8000000) only [go_sem, ↓reduceIte, zn0, zn1, zn2, zn3, zn4, reduceCtorEq, zn5, zi0, zi1, zi2, zi3, zi4, zn6, zn7, zn8, zn9, envRfd, p0, p8, p9, p10, p11, p12, p13, k1, hol, hcap, hk, hlab, i_cartoucheref18_Wider, i_cartoucheref18_labels])
      exact ⟨hcap2, hQ _ (h.next hτ ⟨4, 9, x.name, f.number⟩ rfl (by simp [lk]) (by simp [lk]) (by simp [lk]) (by simp [lk]) (by simp [lk]) (by simp [lk]) (by simp [lk]))⟩
theorem rfD_vc (h : RfS a b x y f g τ n l cs s) (hl : l.length ≤ 2000000000000) (hcs : cs.length ≤ 10) (hτ : LstP τ n l)
    (hQ : ∀ s', RfS a b x y f g τ n l (cs ++ fcC2 x f g) s' → Q .normal s') : vc envRfd rfD Q s := by
  have hcap2 : (l.length + cs.length + 1) * 40 ≤ 140737488355328 := by omega
  have p0 := h.p0; have p8 := h.p8; have p9 := h.p9; have p10 := h.p10; have p11 := h.p11; have p12 := h.p12; have p13 := h.p13
  have k1 := h.same.lst (by decide) (appL_at cs hτ)
  unfold LstP at k1
  simp only [encTy, encFT, encTable] at p8 p9 p10 p11 p12 p13
  have hol := outs_len (l ++ cs)
  have hcap : ((l ++ cs).length + 1) * 40 ≤ 140737488355328 := by rw [List.length_append]; exact hcap2
  simp only [rfD, A_cartoucheref18_field, sq1, sq2]
  by_cases h5 : f.label = 5
  · by_cases h6 : g.label = 5
    · by_cases hn : f.key = g.key
      · rw [show fcC2 x f g = [] by simp [fcC2, hn]] at hQ
        (simp -implicitDefEqProofs +contextual (maxSteps := 8000000) only [go_sem, ↓reduceIte, zn0, zn1, zn2, zn3, zn4, reduceCtorEq, zn5, zi0, zi1, zi2, zi3, zi4, zn6, zn7, zn8, zn9, envRfd, p0, p8, p9, p10, p11, p12, p13, k1, hol, hcap, h5, h6, hn])
        exact hQ _ (h.keep rfl (by simp [lk]) (by simp [lk]) (by simp [lk]) (by simp [lk]) (by simp [lk]) (by simp [lk]) (by simp [lk]))
      · rw [show fcC2 x f g = [⟨4, 8, x.name, f.number⟩] by simp [fcC2, h5, h6, hn]] at hQ
        (simp -implicitDefEqProofs +contextual (maxSteps := 8000000) only [go_sem, ↓reduceIte, zn0, zn1, zn2, zn3, zn4, reduceCtorEq, zn5, zi0, zi1, zi2, zi3, zi4, zn6, zn7, zn8, zn9, envRfd, p0, p8, p9, p10, p11, p12, p13, k1, hol, hcap, h5, h6, hn])
        exact ⟨hcap2, hQ _ (h.next hτ ⟨4, 8, x.name, f.number⟩ rfl (by simp [lk]) (by simp [lk]) (by simp [lk]) (by simp [lk]) (by simp [lk]) (by simp [lk]) (by simp [lk]))⟩
    · rw [show fcC2 x f g = [] by simp [fcC2, h6]] at hQ
      (simp -implicitDefEqProofs +contextual (maxSteps := 8000000) only [go_sem, ↓reduceIte, zn0, zn1, zn2, zn3, zn4, reduceCtorEq, zn5, zi0, zi1, zi2, zi3, zi4, zn6, zn7, zn8, zn9, envRfd, p0, p8, p9, p10, p11, p12, p13, k1, hol, hcap, h5, h6])
      exact hQ _ (h.keep rfl (by simp [lk]) (by simp [lk]) (by simp [lk]) (by simp [lk]) (by simp [lk]) (by simp [lk]) (by simp [lk]))
  · rw [show fcC2 x f g = [] by simp [fcC2, h5]] at hQ
    (simp -implicitDefEqProofs +contextual (maxSteps := 8000000) only [go_sem, ↓reduceIte, zn0, zn1, zn2, zn3, zn4, reduceCtorEq, zn5, zi0, zi1, zi2, zi3, zi4, zn6, zn7, zn8, zn9, envRfd, p0, p8, p9, p10, p11, p12, p13, k1, hol, hcap, h5])
    exact hQ _ (h.keep rfl (by simp [lk]) (by simp [lk]) (by simp [lk]) (by simp [lk]) (by simp [lk]) (by simp [lk]) (by simp [lk]))
end
theorem ref_field_gc (a b : List Ty) (x y : Ty) (f g : FT) (σ : Slots) (n : Nat) (l : List Chg) (hl : l.length ≤ 2000000000000) (hτ : LstP σ n l) (hk17 : g.kind ≤ 17) (hfl : 0 ≤ f.label) (hgl : 0 ≤ g.label)
    (hf : (f.kind = 16 ∨ f.kind = 17) → 0 ≤ f.ref ∧ ∃ z, a[f.ref.toNat]? = some z) (hg : (g.kind = 16 ∨ g.kind = 17) → 0 ≤ g.ref ∧ ∃ z, b[g.ref.toNat]? = some z)
    (hf4 : f.label = 4 → 0 ≤ f.oneof ∧ ∃ z, x.oneofs[f.oneof.toNat]? = some z) (hg4 : g.label = 4 → 0 ≤ g.oneof ∧ ∃ z, y.oneofs[g.oneof.toNat]? = some z) :
    GC Tryd.prog i_cartoucheref18_field [.lst 1 n, .iv (encTable a), .iv (encTable b), .iv (encTy x), .iv (encTy y), .iv (encFT f), .iv (encFT g)] σ (fun r σ' => r = .lst 1 (n + (fieldC a b x y f g).length) ∧ SameD dNo σ' (appL σ n l (fieldC a b x y f g))) := by
  refine GC.vc envRfd_ok F_cartoucheref18_field T_cartoucheref18_field L_cartoucheref18_field ?_
  rw [show A_cartoucheref18_field.code = .seq (sq1 A_cartoucheref18_field.code) (.seq rfA (.seq rfB (.seq rfC (.seq rfD rfE)))) from rfl, show A_cartoucheref18_field.res = [.tmp 14] from rfl]
  simp only [A_cartoucheref18_field, sq1, sq2, args0, zl0, zl1, zl2, zl3, zn1]
  (simp -implicitDefEqProofs +contextual (maxSteps := 8000000) only [go_sem, ↓reduceIte, zn0, zn1, zn2, zn3, zn4, reduceCtorEq, zn5, zi0, zi1, zi2, zi3, zi4, zn6, zn7, zn8, zn9, envRfd, encTy, encFT, encTable])
  have h1 := fcA_len x f g
  have h2 := fcB_len a b x f g
  have h3 := fcC_len x y f g
  rw [fcC_split, List.length_append] at h3
  refine rfA_vc (cs := []) (a := a) (b := b) (x := x) (y := y) (f := f) (g := g) (τ := σ) (n := n) (l := l) ⟨by simp [lk], by simp [lk, encTable], by simp [lk, encTable], by simp [lk, encTy], by simp [lk, encTy], by simp [lk, encFT], by simp [lk, encFT], fun q hq => rfl⟩ hl (by simp) hτ ?_
  intro s' h
  simp only [thenC_normal, vc_seq]
  refine rfB_vc h hl (by simp only [List.length_append, List.length_nil]; omega) hτ hk17 hf hg ?_
  intro s' h
  simp only [thenC_normal, vc_seq]
  refine rfC_vc h hl (by simp only [List.length_append, List.length_nil]; omega) hτ hfl hgl hf4 hg4 ?_
  intro s' h
  simp only [thenC_normal, vc_seq]
  refine rfD_vc h hl (by simp only [List.length_append, List.length_nil]; omega) hτ ?_
  intro s' h
  simp only [thenC_normal]
  have p0 := h.p0
  have hs := h.same
  have e : [] ++ fcA x f g ++ fcB a b x f g ++ fcC1 x y f g ++ fcC2 x f g = fieldC a b x y f g := by simp only [fieldC, fcC_split, List.nil_append, List.append_assoc]
  rw [e] at p0 hs
  simp only [rfE, A_cartoucheref18_field, sq2]
  (simp -implicitDefEqProofs +contextual (maxSteps := 8000000) only [go_sem, ↓reduceIte, zn0, zn1, zn2, zn3, zn4, reduceCtorEq, zn5, zi0, zi1, zi2, zi3, zi4, zn6, zn7, zn8, zn9, envRfd, p0])
  exact hs
theorem ref_field_gcD (a b : List Ty) (x y : Ty) (f g : FT) (σ : Slots) (n : Nat) (l : List Chg) (hl : l.length ≤ 2000000000000) (hτ : LstP σ n l) (hk17 : g.kind ≤ 17) (hfl : 0 ≤ f.label) (hgl : 0 ≤ g.label)
    (hf : (f.kind = 16 ∨ f.kind = 17) → 0 ≤ f.ref ∧ ∃ z, a[f.ref.toNat]? = some z) (hg : (g.kind = 16 ∨ g.kind = 17) → 0 ≤ g.ref ∧ ∃ z, b[g.ref.toNat]? = some z)
    (hf4 : f.label = 4 → 0 ≤ f.oneof ∧ ∃ z, x.oneofs[f.oneof.toNat]? = some z) (hg4 : g.label = 4 → 0 ≤ g.oneof ∧ ∃ z, y.oneofs[g.oneof.toNat]? = some z) (hav : Aw σ) :
    GC Tryd.prog i_cartoucheref18_field [.lst 1 n, .iv (encTable a), .iv (encTable b), .iv (encTy x), .iv (encTy y), .iv (encFT f), .iv (encFT g)] σ (fun r σ' => r = .lst 1 (n + (fieldC a b x y f g).length) ∧ σ' = appL σ n l (fieldC a b x y f g)) :=
  GC.drop dNo _ _ rfl (fun q hq => by cases hq) (fun r σ' h => ⟨h.1, fun q => appL_drop (fun q hq => by cases hq) rfl h.2 q⟩) (hav.app.to fun q hq => by cases hq) (ref_field_gc a b x y f g σ n l hl hτ hk17 hfl hgl hf hg hf4 hg4)
end Go.Proofs.YtmdkcapbahjipaaDoor.Ag
namespace Go.Proofs.YtmdkcapbahjipaaDoor.Ag
attribute [-go_sem] Int.not_lt Int.not_le
attribute [-go_sem] nxt
attribute [-go_sem] vcXG_bool
def hasS (l : List Sym) (n : Int) : Bool := l.any fun q => decide (q.num = n)
theorem hasS_snoc (l : List Sym) (q : Sym) (n : Int) : hasS (l ++ [q]) n = (hasS l n || decide (q.num = n)) := by simp [hasS, List.any_append]
def reQ (x : Ty) (s q : Sym) : List Chg := if q.num = s.num then (if q.name = s.name then [] else [⟨3, 7, x.name, s.num⟩]) else []
def reN (x : Ty) (s : Sym) (b : Bool) : List Chg := if b then [] else [⟨4, 3, x.name, s.num⟩]
def re1 (x y : Ty) (s : Sym) : List Chg := y.syms.flatMap (reQ x s) ++ reN x s (hasS y.syms s.num)
def re2 (x : Ty) (q : Sym) : List Chg := if hasS x.syms q.num then [] else [⟨3, 4, x.name, q.num⟩]
def renumC (x y : Ty) : List Chg := x.syms.flatMap (re1 x y) ++ y.syms.flatMap (re2 x)
theorem reQ_len (x : Ty) (s q : Sym) : (reQ x s q).length ≤ 1 := by unfold reQ; split; split <;> simp; simp
theorem reN_len (x : Ty) (s : Sym) (b : Bool) : (reN x s b).length ≤ 1 := by unfold reN; split <;> simp
theorem re2_len (x : Ty) (q : Sym) : (re2 x q).length ≤ 1 := by unfold re2; split <;> simp
theorem re1_len (x y : Ty) (s : Sym) : (re1 x y s).length ≤ y.syms.length + 1 := by
  have h1 := flatMap_len (reQ_len x s) y.syms
  have h2 := reN_len x s (hasS y.syms s.num)
  simp only [re1, List.length_append]; omega
theorem flatMap_lenB {α : Type} {g : α → List Chg} {K : Nat} (hg : ∀ s, (g s).length ≤ K) : ∀ l : List α, (l.flatMap g).length ≤ K * l.length
  | [] => by simp
  | s :: l => by
    have h1 := hg s
    have h2 := flatMap_lenB hg l
    simp only [List.flatMap_cons, List.length_append, List.length_cons, Nat.mul_add, Nat.mul_one]; omega
theorem cap2 {a b : Nat} (h1 : a ≤ 1000000000) (h2 : b ≤ 30000) : (a + b + 1) * 40 ≤ 140737488355328 := by omega
def dRe (q : Nat) : Bool := decide (q = 60)
theorem dRe_dR : ∀ q, dRe q = true → dR q = true := by intro q; simp only [dRe, dR, decide_eq_true_eq]; omega
structure LsS (x y : Ty) (τ : Slots) (n : Nat) (l cs : List Chg) (st : St) : Prop where
  p0 : lk st.ρ 0 = some (.lst 1 (n + cs.length))
  p4 : lk st.ρ 4 = some (.iv (.ref (encTy x)))
  p5 : lk st.ρ 5 = some (.iv (.ref (encTy y)))
  same : SameD dRe st.σ (appL τ n l cs)
section
variable {x y : Ty} {τ : Slots} {n : Nat} {l cs : List Chg}
theorem LsS.next {st : St} (h : LsS x y τ n l cs st) (hτ : LstP τ n l) (c : Chg) {cs' : List Chg} {st' : St} (e : cs' = cs ++ [c]) (hσ : st'.σ = upd st.σ 1 (nxt st.σ 1, .list 101 4 (outs (l ++ cs) ++ [encChg c]))) (h0 : lk st'.ρ 0 = some (.lst 1 (nxt st.σ 1))) (h4 : lk st'.ρ 4 = lk st.ρ 4) (h5 : lk st'.ρ 5 = lk st.ρ 5) : LsS x y τ n l cs' st' := by
  subst e
  refine ⟨?_, h4 ▸ h.p4, h5 ▸ h.p5, ?_⟩
  · rw [h0, nxtL hτ h.same (by decide) c]
  · rw [hσ]; exact h.same.step hτ (by decide) c
theorem LsS.keep {st : St} (h : LsS x y τ n l cs st) {cs' : List Chg} {st' : St} (e : cs' = cs) (hσ : st'.σ = st.σ) (h0 : lk st'.ρ 0 = lk st.ρ 0) (h4 : lk st'.ρ 4 = lk st.ρ 4) (h5 : lk st'.ρ 5 = lk st.ρ 5) : LsS x y τ n l cs' st' := by
  subst e
  exact ⟨h0 ▸ h.p0, h4 ▸ h.p4, h5 ▸ h.p5, hσ ▸ h.same⟩
def ReA (x y : Ty) (τ : Slots) (n : Nat) (l : List Chg) (m : Nat) (st : St) : Prop := ∃ j : Nat, LsS x y τ n l ((x.syms.take j).flatMap (re1 x y)) st ∧ lk st.ρ 7 = some (.iv (.int .i64 (j : Int))) ∧ j ≤ x.syms.length ∧ x.syms.length < j + m
def ReB (x y : Ty) (τ : Slots) (n : Nat) (l : List Chg) (j v : Nat) (s : Sym) (m : Nat) (st : St) : Prop := ∃ i : Nat, LsS x y τ n l ((x.syms.take j).flatMap (re1 x y) ++ (y.syms.take i).flatMap (reQ x s)) st ∧ lk st.ρ 7 = some (.iv (.int .i64 (j : Int))) ∧ lk st.ρ 8 = some (.loc 60 v 0) ∧
  lk st.ρ 9 = some (.iv (.bool (hasS (y.syms.take i) s.num))) ∧ lk st.ρ 10 = some (.iv (.int .i64 (i : Int))) ∧ lk st.σ 60 = some (v, .box [.iv (.str s.name), .iv (.int .i64 s.num)]) ∧ i ≤ y.syms.length ∧ y.syms.length < i + m
def ReC (x y : Ty) (τ : Slots) (n : Nat) (l : List Chg) (m : Nat) (st : St) : Prop := ∃ j : Nat, LsS x y τ n l (x.syms.flatMap (re1 x y) ++ (y.syms.take j).flatMap (re2 x)) st ∧ lk st.ρ 11 = some (.iv (.int .i64 (j : Int))) ∧ j ≤ y.syms.length ∧ y.syms.length < j + m
def ReD (x y : Ty) (τ : Slots) (n : Nat) (l : List Chg) (j : Nat) (q : Sym) (m : Nat) (st : St) : Prop := ∃ i : Nat, LsS x y τ n l (x.syms.flatMap (re1 x y) ++ (y.syms.take j).flatMap (re2 x)) st ∧ lk st.ρ 11 = some (.iv (.int .i64 (j : Int))) ∧
  lk st.ρ 12 = some (.iv (.bool (hasS (x.syms.take i) q.num))) ∧ lk st.ρ 13 = some (.iv (.int .i64 (i : Int))) ∧ i ≤ x.syms.length ∧ x.syms.length < i + m
end
def reL1 : ACode := sq1 (sq2 A_cartoucheref18_enum_r.code)
def reL2 : ACode := sq1 (sq2 (sq2 A_cartoucheref18_enum_r.code))
def reL3 : ACode := sq2 (sq2 (sq2 A_cartoucheref18_enum_r.code))
noncomputable def envVre : Env := { split := true }
theorem envVre_ok : EnvOk Tryd.prog envVre := EnvOk.noneS
section
variable (x y : Ty) (τ : Slots) (n : Nat) (l : List Chg)
theorem reL1_vc {Q : AEx → St → Prop} {s : St} (h : LsS x y τ n l [] s) (hτ : LstP τ n l) (hl : l.length ≤ 1000000000) (hx : x.syms.length ≤ 128) (hy : y.syms.length ≤ 128)
    (hQ : ∀ s', LsS x y τ n l (x.syms.flatMap (re1 x y)) s' → Q .normal s') : vc envVre reL1 Q s := by
  have p4 := h.p4; have p5 := h.p5
  simp only [encTy] at p4 p5
  simp only [reL1, A_cartoucheref18_enum_r, sq1, sq2]
  (simp -implicitDefEqProofs +contextual (maxSteps := 8000000) only [go_sem, ↓reduceIte, zn0, zn1, zn2, zn3, zn4, reduceCtorEq, zn5, zi0, zi1, zi2, zi3, zi4, zn6, zn7, zn8, zn9, envVre, p4, p5])
  refine vc_loop (ReA x y τ n l) (x.syms.length + 1) ⟨0, h.keep (by simp) rfl (by simp [lk]) (by simp [lk]) (by simp [lk]), by simp [lk], by omega, by omega⟩ ?_
  clear p4 p5 h s
  rintro m st ⟨j, h, p7, g1, g2⟩
  have p0 := h.p0; have p4 := h.p4; have p5 := h.p5
  simp only [encTy] at p4 p5
  by_cases hj : j < x.syms.length
  · obtain ⟨s, hs⟩ : ∃ s, x.syms[j]? = some s := ⟨x.syms[j], by simp [hj]⟩
    have hms := get_map (f := encSym) hs
    simp only [encSym] at hms
    have hwj := wrap1 hj (by omega)
    have hltj : (j : Int) < (x.syms.length : Int) := by omega
    have et : x.syms.take (j + 1) = x.syms.take j ++ [s] := by rw [List.take_add_one, hs]; rfl
    have hst : (x.syms.take (j + 1)).flatMap (re1 x y) = (x.syms.take j).flatMap (re1 x y) ++ re1 x y s := by rw [et, List.flatMap_append]; simp
    have hlenA := flatMap_lenB (K := 129) (g := re1 x y) (fun s => by have := re1_len x y s; omega) (x.syms.take j)
    rw [List.length_take] at hlenA
    have hlenB : ((x.syms.take j).flatMap (re1 x y)).length ≤ 20000 := by omega
    (simp -implicitDefEqProofs +contextual (maxSteps := 8000000) only [go_sem, ↓reduceIte, zn0, zn1, zn2, zn3, zn4, reduceCtorEq, zn5, zi0, zi1, zi2, zi3, zi4, zn6, zn7, zn8, zn9, envVre, p4, p5, p7, hj, hltj, hms, forall_eq'])
    refine vc_loop (ReB x y τ n l j (nxt st.σ 60) s) (y.syms.length + 1) ⟨0, ⟨by simp [lk, p0], by simp [lk, p4, encTy], by simp [lk, p5, encTy], ?_⟩, by simp [lk, p7], by simp [lk], by simp [lk, hasS], by simp [lk], by simp [lk_upd], by omega, by omega⟩ ?_
    · simp only [List.take_zero, List.flatMap_nil, List.append_nil]
      exact (h.same.up (q := 60) (by decide)).up (q := 60) (by decide)
    generalize hv : nxt st.σ 60 = v
    clear hv p0 p4 p5 p7 h st
    rintro m2 st ⟨i, h, p7, p8, p9, p10, k60, f1, f2⟩
    have p0 := h.p0; have p4 := h.p4; have p5 := h.p5
    have k1 := h.same.lst (by decide) (appL_at _ hτ)
    unfold LstP at k1
    simp only [encTy] at p4 p5
    have hlenC := flatMap_len (reQ_len x s) (y.syms.take i)
    rw [List.length_take] at hlenC
    generalize hcs : (x.syms.take j).flatMap (re1 x y) ++ (y.syms.take i).flatMap (reQ x s) = cs at h p0 k1
    have hcl : cs.length ≤ 30000 := by rw [← hcs, List.length_append]; omega
    have hcap2 : (l.length + cs.length + 1) * 40 ≤ 140737488355328 := cap2 hl hcl
    have hcap : ((l ++ cs).length + 1) * 40 ≤ 140737488355328 := by rw [List.length_append]; exact hcap2
    have hol := outs_len (l ++ cs)
    by_cases hi : i < y.syms.length
    · obtain ⟨q, hq⟩ : ∃ q, y.syms[i]? = some q := ⟨y.syms[i], by simp [hi]⟩
      have hmq := get_map (f := encSym) hq
      simp only [encSym] at hmq
      have hwi := wrap1 hi (by omega)
      have hlti : (i : Int) < (y.syms.length : Int) := by omega
      have eti : y.syms.take (i + 1) = y.syms.take i ++ [q] := by rw [List.take_add_one, hq]; rfl
      have hsti : (x.syms.take j).flatMap (re1 x y) ++ (y.syms.take (i + 1)).flatMap (reQ x s) = cs ++ reQ x s q := by rw [eti, List.flatMap_append, ← hcs]; simp
      have hha : hasS (y.syms.take (i + 1)) s.num = (hasS (y.syms.take i) s.num || decide (q.num = s.num)) := by rw [eti, hasS_snoc]
      by_cases hn : q.num = s.num
      · by_cases hm : q.name = s.name
        · have he : reQ x s q = [] := by simp [reQ, hn, hm]
          (simp -implicitDefEqProofs +contextual (maxSteps := 8000000) only [go_sem, ↓reduceIte, zn0, zn1, zn2, zn3, zn4, reduceCtorEq, zn5, zi0, zi1, zi2, zi3, zi4, zn6, zn7, zn8, zn9, envVre, p0, p4, p5, p7, p8, p9, p10, k60, k1, hi, hlti, hmq, hwi, hol, hcap, forall_eq', hn, hm])
          exact ⟨m2 - 1, by omega, i + 1, h.keep (by rw [hsti, he, List.append_nil]) rfl (by simp [lk]) (by simp [lk]) (by simp [lk]), by simp [lk, p7], by simp [lk, p8], by rw [hha]; simp [lk, hn], by simp [lk], by simpa using k60, by omega, by omega⟩
        · have he : reQ x s q = [⟨3, 7, x.name, s.num⟩] := by simp [reQ, hn, hm]
          (simp -implicitDefEqProofs +contextual (maxSteps := 8000000) only [go_sem, ↓reduceIte, zn0, zn1, zn2, zn3, zn4, reduceCtorEq, zn5, zi0, zi1, zi2, zi3, zi4, zn6, zn7, zn8, zn9, envVre, p0, p4, p5, p7, p8, p9, p10, k60, k1, hi, hlti, hmq, hwi, hol, hcap, forall_eq', hn, hm])
          exact ⟨hcap2, m2 - 1, by omega, i + 1, h.next hτ ⟨3, 7, x.name, s.num⟩ (by rw [hsti, he]) rfl (by simp [lk]) (by simp [lk]) (by simp [lk]), by simp [lk, p7], by simp [lk, p8], by rw [hha]; simp [lk, hn], by simp [lk], by simp [lk_upd, k60], by omega, by omega⟩
      · have he : reQ x s q = [] := by simp [reQ, hn]
        (simp -implicitDefEqProofs +contextual (maxSteps := 8000000) only [go_sem, ↓reduceIte, zn0, zn1, zn2, zn3, zn4, reduceCtorEq, zn5, zi0, zi1, zi2, zi3, zi4, zn6, zn7, zn8, zn9, envVre, p0, p4, p5, p7, p8, p9, p10, k60, k1, hi, hlti, hmq, hwi, hol, hcap, forall_eq', hn])
        exact ⟨m2 - 1, by omega, i + 1, h.keep (by rw [hsti, he, List.append_nil]) rfl (by simp [lk]) (by simp [lk]) (by simp [lk]), by simp [lk, p7], by simp [lk, p8], by rw [hha]; simp [lk, p9, hn], by simp [lk], by simpa using k60, by omega, by omega⟩
    · have hlti : ¬ (i : Int) < (y.syms.length : Int) := by omega
      rw [List.take_of_length_le (l := y.syms) (i := i) (by omega)] at p9 hcs
      have hcs2 : (x.syms.take (j + 1)).flatMap (re1 x y) = cs ++ reN x s (hasS y.syms s.num) := by rw [hst, ← hcs, re1, List.append_assoc]
      cases hb : hasS y.syms s.num with
      | true =>
        rw [hb] at p9 hcs2
        (simp -implicitDefEqProofs +contextual (maxSteps := 8000000) only [go_sem, ↓reduceIte, zn0, zn1, zn2, zn3, zn4, reduceCtorEq, zn5, zi0, zi1, zi2, zi3, zi4, zn6, zn7, zn8, zn9, envVre, p0, p4, p5, p7, p8, p9, p10, k60, k1, hi, hlti, hwj])
        exact ⟨m - 1, by omega, j + 1, h.keep (by rw [hcs2]; simp [reN]) rfl (by simp [lk]) (by simp [lk]) (by simp [lk]), by simp [lk], by omega, by omega⟩
      | false =>
        rw [hb] at p9 hcs2
        (simp -implicitDefEqProofs +contextual (maxSteps := 8000000) only [go_sem, ↓reduceIte, zn0, zn1, zn2, zn3, zn4, reduceCtorEq, zn5, zi0, zi1, zi2, zi3, zi4, zn6, zn7, zn8, zn9, envVre, p0, p4, p5, p7, p8, p9, p10, k60, k1, hi, hlti, hwj, hol, hcap])
        exact ⟨hcap2, m - 1, by omega, j + 1, h.next hτ ⟨4, 3, x.name, s.num⟩ (by rw [hcs2]; simp [reN]) rfl (by simp [lk]) (by simp [lk]) (by simp [lk]), by simp [lk], by omega, by omega⟩
  · have hltj : ¬ (j : Int) < (x.syms.length : Int) := by omega
    rw [List.take_of_length_le (by omega)] at h
    (simp -implicitDefEqProofs +contextual (maxSteps := 8000000) only [go_sem, ↓reduceIte, zn0, zn1, zn2, zn3, zn4, reduceCtorEq, zn5, zi0, zi1, zi2, zi3, zi4, zn6, zn7, zn8, zn9, envVre, p4, p5, p7, hj, hltj])
    exact hQ _ (h.keep rfl rfl (by simp [lk]) (by simp [lk]) (by simp [lk]))
theorem reL2_vc {Q : AEx → St → Prop} {s : St} (h : LsS x y τ n l (x.syms.flatMap (re1 x y)) s) (hτ : LstP τ n l) (hl : l.length ≤ 1000000000) (hx : x.syms.length ≤ 128) (hy : y.syms.length ≤ 128)
    (hQ : ∀ s', LsS x y τ n l (renumC x y) s' → Q .normal s') : vc envVre reL2 Q s := by
  have p4 := h.p4; have p5 := h.p5
  simp only [encTy] at p4 p5
  simp only [reL2, A_cartoucheref18_enum_r, sq1, sq2]
  (simp -implicitDefEqProofs +contextual (maxSteps := 8000000) only [go_sem, ↓reduceIte, zn0, zn1, zn2, zn3, zn4, reduceCtorEq, zn5, zi0, zi1, zi2, zi3, zi4, zn6, zn7, zn8, zn9, envVre, p4, p5])
  refine vc_loop (ReC x y τ n l) (y.syms.length + 1) ⟨0, h.keep (by simp) rfl (by simp [lk]) (by simp [lk]) (by simp [lk]), by simp [lk], by omega, by omega⟩ ?_
  clear p4 p5 h s
  rintro m st ⟨j, h, p11, g1, g2⟩
  have p0 := h.p0; have p4 := h.p4; have p5 := h.p5
  simp only [encTy] at p4 p5
  by_cases hj : j < y.syms.length
  · obtain ⟨q, hq⟩ : ∃ q, y.syms[j]? = some q := ⟨y.syms[j], by simp [hj]⟩
    have hmq := get_map (f := encSym) hq
    simp only [encSym] at hmq
    have hwj := wrap1 hj (by omega)
    have hltj : (j : Int) < (y.syms.length : Int) := by omega
    have et : y.syms.take (j + 1) = y.syms.take j ++ [q] := by rw [List.take_add_one, hq]; rfl
    have hst : x.syms.flatMap (re1 x y) ++ (y.syms.take (j + 1)).flatMap (re2 x) = (x.syms.flatMap (re1 x y) ++ (y.syms.take j).flatMap (re2 x)) ++ re2 x q := by rw [et, List.flatMap_append]; simp
    have hlenA := flatMap_lenB (K := 129) (g := re1 x y) (fun s => by have := re1_len x y s; omega) x.syms
    have hlenB := flatMap_len (re2_len x) (y.syms.take j)
    rw [List.length_take] at hlenB
    (simp -implicitDefEqProofs +contextual (maxSteps := 8000000) only [go_sem, ↓reduceIte, zn0, zn1, zn2, zn3, zn4, reduceCtorEq, zn5, zi0, zi1, zi2, zi3, zi4, zn6, zn7, zn8, zn9, envVre, p4, p5, p11, hj, hltj])
    refine vc_loop (ReD x y τ n l j q) (x.syms.length + 1) ⟨0, h.keep rfl rfl (by simp [lk]) (by simp [lk]) (by simp [lk]), by simp [lk, p11], by simp [lk, hasS], by simp [lk], by omega, by omega⟩ ?_
    clear p0 p4 p5 p11 h st
    rintro m2 st ⟨i, h, p11, p12, p13, f1, f2⟩
    have p0 := h.p0; have p4 := h.p4; have p5 := h.p5
    have k1 := h.same.lst (by decide) (appL_at _ hτ)
    unfold LstP at k1
    simp only [encTy] at p4 p5
    have hcl : (x.syms.flatMap (re1 x y) ++ (y.syms.take j).flatMap (re2 x)).length ≤ 30000 := by rw [List.length_append]; omega
    generalize hcs : x.syms.flatMap (re1 x y) ++ (y.syms.take j).flatMap (re2 x) = cs at h p0 k1 hst hcl
    have hcap2 : (l.length + cs.length + 1) * 40 ≤ 140737488355328 := cap2 hl hcl
    have hcap : ((l ++ cs).length + 1) * 40 ≤ 140737488355328 := by rw [List.length_append]; exact hcap2
    have hol := outs_len (l ++ cs)
    by_cases hi : i < x.syms.length
    · obtain ⟨s, hs⟩ : ∃ s, x.syms[i]? = some s := ⟨x.syms[i], by simp [hi]⟩
      have hms := get_map (f := encSym) hs
      simp only [encSym] at hms
      have hwi := wrap1 hi (by omega)
      have hlti : (i : Int) < (x.syms.length : Int) := by omega
      have eti : x.syms.take (i + 1) = x.syms.take i ++ [s] := by rw [List.take_add_one, hs]; rfl
      have hha : hasS (x.syms.take (i + 1)) q.num = (hasS (x.syms.take i) q.num || decide (s.num = q.num)) := by rw [eti, hasS_snoc]
      cases hb : hasS (x.syms.take i) q.num with
      | true =>
        rw [hb] at p12 hha
        (simp -implicitDefEqProofs +contextual (maxSteps := 8000000) only [go_sem, ↓reduceIte, zn0, zn1, zn2, zn3, zn4, reduceCtorEq, zn5, zi0, zi1, zi2, zi3, zi4, zn6, zn7, zn8, zn9, envVre, vcXG_tt, vcXG_ff, vcXG_tf, vcXG_ft, p0, p4, p5, p11, p12, p13, hi, hlti, hwi, hmq, hms, hj, hltj, forall_eq'])
        exact ⟨m2 - 1, by omega, i + 1, by rw [hcs]; exact h.keep rfl rfl (by simp [lk]) (by simp [lk]) (by simp [lk]), by simp [lk, p11], by rw [hha]; simp [lk], by simp [lk], by omega, by omega⟩
      | false =>
        rw [hb] at p12 hha
        by_cases hn : s.num = q.num
        · (simp -implicitDefEqProofs +contextual (maxSteps := 8000000) only [go_sem, ↓reduceIte, zn0, zn1, zn2, zn3, zn4, reduceCtorEq, zn5, zi0, zi1, zi2, zi3, zi4, zn6, zn7, zn8, zn9, envVre, vcXG_tt, vcXG_ff, vcXG_tf, vcXG_ft, p0, p4, p5, p11, p12, p13, hi, hlti, hwi, hmq, hms, hj, hltj, hn, forall_eq'])
          exact ⟨m2 - 1, by omega, i + 1, by rw [hcs]; exact h.keep rfl rfl (by simp [lk]) (by simp [lk]) (by simp [lk]), by simp [lk, p11], by rw [hha]; simp [lk, hn], by simp [lk], by omega, by omega⟩
        · (simp -implicitDefEqProofs +contextual (maxSteps := 8000000) only [go_sem, ↓reduceIte, zn0, zn1, zn2, zn3, zn4, reduceCtorEq, zn5, zi0, zi1, zi2, zi3, zi4, zn6, zn7, zn8, zn9, envVre, vcXG_tt, vcXG_ff, vcXG_tf, vcXG_ft, p0, p4, p5, p11, p12, p13, hi, hlti, hwi, hmq, hms, hj, hltj, hn, forall_eq'])
          exact ⟨m2 - 1, by omega, i + 1, by rw [hcs]; exact h.keep rfl rfl (by simp [lk]) (by simp [lk]) (by simp [lk]), by simp [lk, p11], by rw [hha]; simp [lk, hn], by simp [lk], by omega, by omega⟩
    · have hlti : ¬ (i : Int) < (x.syms.length : Int) := by omega
      rw [List.take_of_length_le (l := x.syms) (i := i) (by omega)] at p12
      cases hb : hasS x.syms q.num with
      | true =>
        have he : re2 x q = [] := by simp [re2, hb]
        rw [hb] at p12
        (simp -implicitDefEqProofs +contextual (maxSteps := 8000000) only [go_sem, ↓reduceIte, zn0, zn1, zn2, zn3, zn4, reduceCtorEq, zn5, zi0, zi1, zi2, zi3, zi4, zn6, zn7, zn8, zn9, envVre, p0, p4, p5, p11, p12, p13, k1, hi, hlti, hwj])
        exact ⟨m - 1, by omega, j + 1, h.keep (by rw [hst, he, List.append_nil]) rfl (by simp [lk]) (by simp [lk]) (by simp [lk]), by simp [lk], by omega, by omega⟩
      | false =>
        have he : re2 x q = [⟨3, 4, x.name, q.num⟩] := by simp [re2, hb]
        rw [hb] at p12
        (simp -implicitDefEqProofs +contextual (maxSteps := 8000000) only [go_sem, ↓reduceIte, zn0, zn1, zn2, zn3, zn4, reduceCtorEq, zn5, zi0, zi1, zi2, zi3, zi4, zn6, zn7, zn8, zn9, envVre, p0, p4, p5, p11, p12, p13, k1, hi, hlti, hwj, hmq, hj, hltj, hol, hcap, forall_eq'])
        exact ⟨hcap2, m - 1, by omega, j + 1, h.next hτ ⟨3, 4, x.name, q.num⟩ (by rw [hst, he]) rfl (by simp [lk]) (by simp [lk]) (by simp [lk]), by simp [lk], by omega, by omega⟩
  · have hltj : ¬ (j : Int) < (y.syms.length : Int) := by omega
    rw [List.take_of_length_le (l := y.syms) (i := j) (by omega)] at h
    (simp -implicitDefEqProofs +contextual (maxSteps := 8000000) only [go_sem, ↓reduceIte, zn0, zn1, zn2, zn3, zn4, reduceCtorEq, zn5, zi0, zi1, zi2, zi3, zi4, zn6, zn7, zn8, zn9, envVre, p4, p5, p11, hj, hltj])
    exact hQ _ (h.keep rfl rfl (by simp [lk]) (by simp [lk]) (by simp [lk]))
end
theorem ref_enum_gc (x y : Ty) (σ : Slots) (n : Nat) (l : List Chg) (hl : l.length ≤ 1000000000) (hτ : LstP σ n l) (hx : x.syms.length ≤ 128) (hy : y.syms.length ≤ 128) :
    GC Tryd.prog i_cartoucheref18_enum [.lst 1 n, .iv (encTy x), .iv (encTy y)] σ (fun r σ' => r = .lst 1 (n + (renumC x y).length) ∧ SameD dRe σ' (appL σ n l (renumC x y))) := by
  refine GC.vc envVre_ok F_cartoucheref18_enum_r T_cartoucheref18_enum_r L_cartoucheref18_enum_r ?_
  rw [show A_cartoucheref18_enum_r.code = .seq (sq1 A_cartoucheref18_enum_r.code) (.seq reL1 (.seq reL2 reL3)) from rfl, show A_cartoucheref18_enum_r.res = [.tmp 6] from rfl]
  simp only [A_cartoucheref18_enum_r, sq1, sq2, args0, zl0, zl1, zl2, zl3, zn1]
  (simp -implicitDefEqProofs +contextual (maxSteps := 8000000) only [go_sem, ↓reduceIte, zn0, zn1, zn2, zn3, zn4, reduceCtorEq, zn5, zi0, zi1, zi2, zi3, zi4, zn6, zn7, zn8, zn9, envVre, encTy])
  refine reL1_vc x y σ n l ⟨by simp [lk], by simp [lk, encTy], by simp [lk, encTy], fun q hq => rfl⟩ hτ hl hx hy ?_
  intro s' h
  simp only [thenC_normal, vc_seq]
  refine reL2_vc x y σ n l h hτ hl hx hy ?_
  intro s' h
  simp only [thenC_normal]
  have p0 := h.p0
  simp only [reL3, A_cartoucheref18_enum_r, sq2]
  (simp -implicitDefEqProofs +contextual (maxSteps := 8000000) only [go_sem, ↓reduceIte, zn0, zn1, zn2, zn3, zn4, reduceCtorEq, zn5, zi0, zi1, zi2, zi3, zi4, zn6, zn7, zn8, zn9, envVre, p0])
  exact h.same
theorem ref_enum_gcD (x y : Ty) (σ : Slots) (n : Nat) (l : List Chg) (hl : l.length ≤ 1000000000) (hτ : LstP σ n l) (hx : x.syms.length ≤ 128) (hy : y.syms.length ≤ 128) (h60 : lk σ 60 = none) (hav : Aw σ) :
    GC Tryd.prog i_cartoucheref18_enum [.lst 1 n, .iv (encTy x), .iv (encTy y)] σ (fun r σ' => r = .lst 1 (n + (renumC x y).length) ∧ σ' = appL σ n l (renumC x y)) := by
  have hd : ∀ q, dRe q = true → lk σ q = none := fun q hq => by simp only [dRe, decide_eq_true_eq] at hq; subst hq; exact h60
  exact GC.drop dRe _ _ rfl hd (fun r σ' h => ⟨h.1, fun q => appL_drop hd (by decide) h.2 q⟩) (hav.app.to dRe_dR) (ref_enum_gc x y σ n l hl hτ hx hy)
def stepR (p : Int) (o : Rng) : Int := if o.low ≤ p ∧ p ≤ o.high then o.high + 1 else p
def rwB (a b : List Rng) : Bool := a.all fun r => decide (r.high < b.foldl stepR r.low)
theorem foldl_snoc' {α β : Type} (g : β → α → β) (l : List α) (a : α) (z : β) : (l ++ [a]).foldl g z = g (l.foldl g z) a := by simp
def RwI (a b : List Rng) (n : Nat) (st : St) : Prop := ∃ i : Nat, lk st.ρ 0 = some (.iv (.slice (a.map encRng))) ∧ lk st.ρ 1 = some (.iv (.slice (b.map encRng))) ∧ lk st.ρ 5 = some (.iv (.int .i64 (i : Int))) ∧ rwB a b = rwB (a.drop i) b ∧ i ≤ a.length ∧ a.length < i + n
def RwJ (a b : List Rng) (i : Nat) (r : Rng) (n : Nat) (st : St) : Prop := ∃ k : Nat, lk st.ρ 0 = some (.iv (.slice (a.map encRng))) ∧ lk st.ρ 1 = some (.iv (.slice (b.map encRng))) ∧ lk st.ρ 5 = some (.iv (.int .i64 (i : Int))) ∧
  lk st.ρ 6 = some (.iv (.int .i64 ((b.take k).foldl stepR r.low))) ∧ lk st.ρ 7 = some (.iv (.int .i64 (k : Int))) ∧ k ≤ b.length ∧ b.length < k + n
theorem ref_within_fc (a b : List Rng) (ha : HiOk a) (hb : HiOk b) (hl : a.length ≤ 2000000) (hm : b.length ≤ 2000000) : FC Tryd.prog i_cartoucheref18_within [encRs a, encRs b] (· = .bool (rwB a b)) := by
  (refine FC.vc (EnvOk.noneS) F_cartoucheref18_within T_cartoucheref18_within L_cartoucheref18_within ?_; unfold A_cartoucheref18_within; simp only [args0, zl0, zl1, zl2, zl3, zn1])
  (simp -implicitDefEqProofs +contextual (maxSteps := 8000000) only [go_sem, ↓reduceIte, zn0, zn1, zn2, zn3, zn4, reduceCtorEq, zn5, zi0, zi1, zi2, zi3, zi4, zn6, zn7, zn8, zn9, encRs])
  refine vc_loop (RwI a b) (a.length + 1) ⟨0, by simp [lk], by simp [lk], by simp [lk], rfl, by omega, by omega⟩ ?_
  rintro n st ⟨i, h0, h1, h5, he, g1, g2⟩
  by_cases hi : i < a.length
  · obtain ⟨r, hr⟩ : ∃ r, a[i]? = some r := ⟨a[i], by simp [hi]⟩
    have hmr := get_map (f := encRng) hr
    simp only [encRng] at hmr
    have hwi := wrap1 hi (by omega)
    have hlti : (i : Int) < (a.length : Int) := by omega
    have hrh := ha r (List.mem_of_getElem? hr)
    have hdr := drop_at hr
    have hall : rwB (a.drop i) b = (decide (r.high < b.foldl stepR r.low) && rwB (a.drop (i + 1)) b) := by rw [hdr]; simp [rwB]
    (simp -implicitDefEqProofs +contextual (maxSteps := 8000000) only [go_sem, ↓reduceIte, zn0, zn1, zn2, zn3, zn4, reduceCtorEq, zn5, zi0, zi1, zi2, zi3, zi4, zn6, zn7, zn8, zn9, h0, h1, h5, hi, hlti, hmr, forall_eq'])
    refine vc_loop (RwJ a b i r) (b.length + 1) ⟨0, by simp [lk, h0], by simp [lk, h1], by simp [lk, h5], by simp [lk], by simp [lk], by omega, by omega⟩ ?_
    clear h0 h1 h5 st
    rintro m st ⟨k, h0, h1, h5, h6, h7, f1, f2⟩
    by_cases hk : k < b.length
    · obtain ⟨o, ho⟩ : ∃ o, b[k]? = some o := ⟨b[k], by simp [hk]⟩
      have hmo := get_map (f := encRng) ho
      simp only [encRng] at hmo
      have hwk := wrap1 hk (by omega)
      have hltk : (k : Int) < (b.length : Int) := by omega
      have hoh := hb o (List.mem_of_getElem? ho)
      have et : (b.take (k + 1)).foldl stepR r.low = stepR ((b.take k).foldl stepR r.low) o := by rw [List.take_add_one, ho]; exact foldl_snoc' _ _ _ _
      generalize (b.take k).foldl stepR r.low = p at h6 et
      have hwo : IntKind.i64.wrap (o.high + 1) = o.high + 1 := wrap_i64 (by omega) (by omega)
      by_cases e1 : o.low ≤ p
      · by_cases e2 : p ≤ o.high
        · have es : stepR p o = o.high + 1 := by simp [stepR, e1, e2]
          (simp -implicitDefEqProofs +contextual (maxSteps := 8000000) only [go_sem, ↓reduceIte, zn0, zn1, zn2, zn3, zn4, reduceCtorEq, zn5, zi0, zi1, zi2, zi3, zi4, zn6, zn7, zn8, zn9, h0, h1, h5, h6, h7, hk, hltk, hmo, hwk, hwo, e1, e2, forall_eq'])
          exact ⟨m - 1, by omega, k + 1, by simp [lk, h0], by simp [lk, h1], by simp [lk, h5], by rw [et, es]; simp [lk], by simp [lk], by omega, by omega⟩
        · have es : stepR p o = p := by simp [stepR, e2]
          (simp -implicitDefEqProofs +contextual (maxSteps := 8000000) only [go_sem, ↓reduceIte, zn0, zn1, zn2, zn3, zn4, reduceCtorEq, zn5, zi0, zi1, zi2, zi3, zi4, zn6, zn7, zn8, zn9, h0, h1, h5, h6, h7, hk, hltk, hmo, hwk, hwo, e1, e2, forall_eq'])
          exact ⟨m - 1, by omega, k + 1, by simp [lk, h0], by simp [lk, h1], by simp [lk, h5], by rw [et, es]; simp [lk, h6], by simp [lk], by omega, by omega⟩
      · have es : stepR p o = p := by simp [stepR, e1]
        (simp -implicitDefEqProofs +contextual (maxSteps := 8000000) only [go_sem, ↓reduceIte, zn0, zn1, zn2, zn3, zn4, reduceCtorEq, zn5, zi0, zi1, zi2, zi3, zi4, zn6, zn7, zn8, zn9, h0, h1, h5, h6, h7, hk, hltk, hmo, hwk, hwo, e1, forall_eq'])
        exact ⟨m - 1, by omega, k + 1, by simp [lk, h0], by simp [lk, h1], by simp [lk, h5], by rw [et, es]; simp [lk, h6], by simp [lk], by omega, by omega⟩
    · have hltk : ¬ (k : Int) < (b.length : Int) := by omega
      rw [List.take_of_length_le (l := b) (i := k) (by omega)] at h6
      by_cases e : b.foldl stepR r.low ≤ r.high
      · have hd : decide (r.high < b.foldl stepR r.low) = false := by simp; omega
        (simp -implicitDefEqProofs +contextual (maxSteps := 8000000) only [go_sem, ↓reduceIte, zn0, zn1, zn2, zn3, zn4, reduceCtorEq, zn5, zi0, zi1, zi2, zi3, zi4, zn6, zn7, zn8, zn9, h0, h1, h5, h6, h7, hk, hltk, hi, hlti, hmr, e, forall_eq'])
        rw [he, hall, hd]; simp
      · have hd : decide (r.high < b.foldl stepR r.low) = true := by simp; omega
        (simp -implicitDefEqProofs +contextual (maxSteps := 8000000) only [go_sem, ↓reduceIte, zn0, zn1, zn2, zn3, zn4, reduceCtorEq, zn5, zi0, zi1, zi2, zi3, zi4, zn6, zn7, zn8, zn9, h0, h1, h5, h6, h7, hk, hltk, hi, hlti, hmr, hwi, e, forall_eq'])
        exact ⟨n - 1, by omega, i + 1, by simp [lk, h0], by simp [lk, h1], by simp [lk], by rw [he, hall, hd]; simp, by omega, by omega⟩
  · have hlti : ¬ (i : Int) < (a.length : Int) := by omega
    rw [List.drop_of_length_le (by omega)] at he
    (simp -implicitDefEqProofs +contextual (maxSteps := 8000000) only [go_sem, ↓reduceIte, zn0, zn1, zn2, zn3, zn4, reduceCtorEq, zn5, zi0, zi1, zi2, zi3, zi4, zn6, zn7, zn8, zn9, h0, h1, h5, hi, hlti])
    rw [he]; simp [rwB]
open Classical
noncomputable def g_cartoucheref18_within : List IV → Option IV
  | [a_, b_] => (match decRs a_ with
    | some a => (match decRs b_ with
    | some b => if HiOk a ∧ HiOk b ∧ a.length ≤ 2000000 ∧ b.length ≤ 2000000 then some (.bool (rwB a b)) else none
    | none => none)
    | none => none)
  | _ => none
theorem g_cartoucheref18_within_is (a : List Rng) (b : List Rng) : g_cartoucheref18_within [encRs a, encRs b] = if HiOk a ∧ HiOk b ∧ a.length ≤ 2000000 ∧ b.length ≤ 2000000 then some (.bool (rwB a b)) else none := by
  simp only [g_cartoucheref18_within, decRs_enc, decRs_enc]
theorem g_cartoucheref18_within_ok : ∀ xs r, g_cartoucheref18_within xs = some r → FC Tryd.prog i_cartoucheref18_within xs (· = r) := by
  intro xs r h
  unfold g_cartoucheref18_within at h
  split at h
  · rename_i a_ b_
    split at h
    · rename_i a ha
      split at h
      · rename_i b hb
        split at h
        · rename_i hpre
          injection h with h; subst h
          have := decRs_enc_inv ha; subst this
          have := decRs_enc_inv hb; subst this
          exact ref_within_fc a b hpre.1 hpre.2.1 hpre.2.2.1 hpre.2.2.2
        · cases h
      · cases h
    · cases h
  · cases h

end Go.Proofs.YtmdkcapbahjipaaDoor.Ag
namespace Go.Proofs.YtmdkcapbahjipaaDoor.Ag
attribute [-go_sem] Int.not_lt Int.not_le
attribute [-go_sem] nxt
attribute [-go_sem] vcXG_bool
def hasF (l : List FT) (n : Int) : Bool := l.any fun q => decide (q.number = n)
theorem hasF_snoc (l : List FT) (q : FT) (n : Int) : hasF (l ++ [q]) n = (hasF l n || decide (q.number = n)) := by simp [hasF, List.any_append]
noncomputable def rmQ (a b : List Ty) (x y : Ty) (f g : FT) : List Chg := if g.number = f.number then fieldC a b x y f g else []
def rmN (x : Ty) (f : FT) (h : Bool) : List Chg := if h then [] else [⟨4, 5, x.name, f.number⟩]
noncomputable def rm1 (a b : List Ty) (x y : Ty) (f : FT) : List Chg := y.fields.flatMap (rmQ a b x y f) ++ rmN x f (hasF y.fields f.number)
def rm2 (x : Ty) (n : Int) : Chg := ⟨2, 6, x.name, n⟩
def rm3 (x y : Ty) : List Chg := if rwB x.rsv y.rsv = false then [⟨4, 10, x.name, 0⟩] else if rwB y.rsv x.rsv = false then [⟨3, 10, x.name, 0⟩] else []
noncomputable def rmessC (a b : List Ty) (x y : Ty) : List Chg := x.fields.flatMap (rm1 a b x y) ++ (newF x y.fields).map (rm2 x) ++ rm3 x y
theorem rmQ_len (a b : List Ty) (x y : Ty) (f g : FT) : (rmQ a b x y f g).length ≤ 3 := by
  unfold rmQ; split
  · exact fieldC_len _ _ _ _ _ _
  · simp
theorem rmN_len (x : Ty) (f : FT) (h : Bool) : (rmN x f h).length ≤ 1 := by unfold rmN; split <;> simp
theorem rm1_len (a b : List Ty) (x y : Ty) (f : FT) : (rm1 a b x y f).length ≤ 3 * y.fields.length + 1 := by
  have h1 := flatMap_lenB (rmQ_len a b x y f) y.fields
  have h2 := rmN_len x f (hasF y.fields f.number)
  simp only [rm1, List.length_append]; omega
theorem cap3 {a b : Nat} (h1 : a ≤ 1000000000) (h2 : b ≤ 200000) : (a + b + 1) * 40 ≤ 140737488355328 := by omega
def dRm (q : Nat) : Bool := decide (q = 64)
theorem dRm_dR : ∀ q, dRm q = true → dR q = true := by intro q; simp only [dRm, dR, decide_eq_true_eq]; omega
structure RmOk (a b : List Ty) (x y : Ty) : Prop where
  lx : x.fields.length ≤ 128
  ly : y.fields.length ≤ 128
  fx : FOk a x
  fy : FOk b y
  kx : ∀ f ∈ x.fields, f.kind ≤ 17 ∧ 0 ≤ f.label
  ky : ∀ f ∈ y.fields, f.kind ≤ 17 ∧ 0 ≤ f.label
  sx : x.rsv.length ≤ 2000000
  sy : y.rsv.length ≤ 2000000
  hx : HiOk x.rsv
  hy : HiOk y.rsv
structure LmS (a b : List Ty) (x y : Ty) (τ : Slots) (n : Nat) (l cs : List Chg) (st : St) : Prop where
  p0 : lk st.ρ 0 = some (.lst 1 (n + cs.length))
  p6 : lk st.ρ 6 = some (.iv (.ref (encTable a)))
  p7 : lk st.ρ 7 = some (.iv (.ref (encTable b)))
  p8 : lk st.ρ 8 = some (.iv (.ref (encTy x)))
  p9 : lk st.ρ 9 = some (.iv (.ref (encTy y)))
  same : SameD dRm st.σ (appL τ n l cs)
  av : Aw st.σ
section
variable {a b : List Ty} {x y : Ty} {τ : Slots} {n : Nat} {l cs : List Chg}
theorem LmS.next {st : St} (h : LmS a b x y τ n l cs st) (hτ : LstP τ n l) (c : Chg) {cs' : List Chg} {st' : St} (e : cs' = cs ++ [c]) (hσ : st'.σ = upd st.σ 1 (nxt st.σ 1, .list 101 4 (outs (l ++ cs) ++ [encChg c]))) (h0 : lk st'.ρ 0 = some (.lst 1 (nxt st.σ 1))) (h6 : lk st'.ρ 6 = lk st.ρ 6) (h7 : lk st'.ρ 7 = lk st.ρ 7) (h8 : lk st'.ρ 8 = lk st.ρ 8) (h9 : lk st'.ρ 9 = lk st.ρ 9) : LmS a b x y τ n l cs' st' := by
  subst e
  refine ⟨?_, h6 ▸ h.p6, h7 ▸ h.p7, h8 ▸ h.p8, h9 ▸ h.p9, ?_, ?_⟩
  · rw [h0, nxtL hτ h.same (by decide) c]
  · rw [hσ]; exact h.same.step hτ (by decide) c
  · rw [hσ]; exact h.av.up rfl
theorem LmS.keep {st : St} (h : LmS a b x y τ n l cs st) {cs' : List Chg} {st' : St} (e : cs' = cs) (hσ : st'.σ = st.σ) (h0 : lk st'.ρ 0 = lk st.ρ 0) (h6 : lk st'.ρ 6 = lk st.ρ 6) (h7 : lk st'.ρ 7 = lk st.ρ 7) (h8 : lk st'.ρ 8 = lk st.ρ 8) (h9 : lk st'.ρ 9 = lk st.ρ 9) : LmS a b x y τ n l cs' st' := by
  subst e
  exact ⟨h0 ▸ h.p0, h6 ▸ h.p6, h7 ▸ h.p7, h8 ▸ h.p8, h9 ▸ h.p9, hσ ▸ h.same, hσ ▸ h.av⟩
theorem LmS.more {st : St} (h : LmS a b x y τ n l cs st) (hτ : LstP τ n l) (ds : List Chg) {cs' : List Chg} {st' : St} (e : cs' = cs ++ ds) (hσ : st'.σ = appL st.σ (n + cs.length) (l ++ cs) ds) (h0 : lk st'.ρ 0 = some (.lst 1 (n + cs.length + ds.length))) (h6 : lk st'.ρ 6 = lk st.ρ 6) (h7 : lk st'.ρ 7 = lk st.ρ 7) (h8 : lk st'.ρ 8 = lk st.ρ 8) (h9 : lk st'.ρ 9 = lk st.ρ 9) : LmS a b x y τ n l cs' st' := by
  subst e
  refine ⟨?_, h6 ▸ h.p6, h7 ▸ h.p7, h8 ▸ h.p8, h9 ▸ h.p9, ?_, ?_⟩
  · rw [h0, List.length_append, Nat.add_assoc]
  · rw [hσ, ← appL_appL cs ds hτ]; exact h.same.app
  · rw [hσ]; exact h.av.app
def VmA (a b : List Ty) (x y : Ty) (τ : Slots) (n : Nat) (l : List Chg) (m : Nat) (st : St) : Prop := ∃ j : Nat, LmS a b x y τ n l ((x.fields.take j).flatMap (rm1 a b x y)) st ∧ lk st.ρ 11 = some (.iv (.int .i64 (j : Int))) ∧ j ≤ x.fields.length ∧ x.fields.length < j + m
def VmB (a b : List Ty) (x y : Ty) (τ : Slots) (n : Nat) (l : List Chg) (j v : Nat) (f : FT) (m : Nat) (st : St) : Prop := ∃ i : Nat, LmS a b x y τ n l ((x.fields.take j).flatMap (rm1 a b x y) ++ (y.fields.take i).flatMap (rmQ a b x y f)) st ∧ lk st.ρ 11 = some (.iv (.int .i64 (j : Int))) ∧ lk st.ρ 12 = some (.loc 64 v 0) ∧
  lk st.ρ 13 = some (.iv (.bool (hasF (y.fields.take i) f.number))) ∧ lk st.ρ 14 = some (.iv (.int .i64 (i : Int))) ∧ lk st.σ 64 = some (v, .box [.iv (.str f.name), .iv (.int .i64 f.number), .iv (.int .i64 f.kind), .iv (.int .i64 f.ref), .iv (.int .i64 f.label), .iv (.int .i64 f.oneof), .iv (.int .i64 f.key)]) ∧ i ≤ y.fields.length ∧ y.fields.length < i + m
def VmC (a b : List Ty) (x y : Ty) (τ : Slots) (n : Nat) (l : List Chg) (m : Nat) (st : St) : Prop := ∃ j : Nat, LmS a b x y τ n l (x.fields.flatMap (rm1 a b x y) ++ ((newF x y.fields).take j).map (rm2 x)) st ∧ lk st.ρ 15 = some (.iv (.slice ((newF x y.fields).map encI))) ∧ lk st.ρ 16 = some (.iv (.int .i64 (j : Int))) ∧ j ≤ (newF x y.fields).length ∧ (newF x y.fields).length < j + m
end
def rmL1 : ACode := sq1 (sq2 A_cartoucheref18_message_r.code)
def rmL2 : ACode := sq2 (sq2 A_cartoucheref18_message_r.code)
theorem callOk79 : callOk Tryd.prog 79 = true := by kernel_rfl
noncomputable def envVrm : Env := { split := true, fc := [(i_cartoucheref18_fresh, g_cartoucheref18_fresh), (i_cartoucheref18_within, g_cartoucheref18_within)], gr := [(79, fun vs σ Q => GC Tryd.prog 79 vs σ Q)] }
theorem envVrm_ok : EnvOk Tryd.prog envVrm := ((EnvOk.noneS.addR callOk79).addF g_cartoucheref18_within_ok).addF g_cartoucheref18_fresh_ok
section
variable (a b : List Ty) (x y : Ty) (τ : Slots) (n : Nat) (l : List Chg)
theorem rmL1_vc {Q : AEx → St → Prop} {s : St} (h : LmS a b x y τ n l [] s) (hτ : LstP τ n l) (hl : l.length ≤ 1000000000) (ok : RmOk a b x y)
    (hQ : ∀ s', LmS a b x y τ n l (x.fields.flatMap (rm1 a b x y)) s' → Q .normal s') : vc envVrm rmL1 Q s := by
  have p8 := h.p8; have p9 := h.p9
  have hx := ok.lx; have hy := ok.ly
  simp only [encTy] at p8 p9
  simp only [rmL1, A_cartoucheref18_message_r, sq1, sq2]
  (simp -implicitDefEqProofs +contextual (maxSteps := 8000000) only [go_sem, ↓reduceIte, zn0, zn1, zn2, zn3, zn4, reduceCtorEq, zn5, zi0, zi1, zi2, zi3, zi4, zn6, zn7, zn8, zn9, envVrm, p8, p9])
  refine vc_loop (VmA a b x y τ n l) (x.fields.length + 1) ⟨0, h.keep (by simp) rfl (by simp [lk]) (by simp [lk]) (by simp [lk]) (by simp [lk]) (by simp [lk]), by simp [lk], by omega, by omega⟩ ?_
  clear p8 p9 h s
  rintro m st ⟨j, h, p11, g1, g2⟩
  have p0 := h.p0; have p6 := h.p6; have p7 := h.p7; have p8 := h.p8; have p9 := h.p9
  simp only [encTy, encTable] at p6 p7 p8 p9
  by_cases hj : j < x.fields.length
  · obtain ⟨f, hf⟩ : ∃ f, x.fields[j]? = some f := ⟨x.fields[j], by simp [hj]⟩
    have hmf := get_map (f := encFT) hf
    simp only [encFT] at hmf
    have hwj := wrap1 hj (by omega)
    have hltj : (j : Int) < (x.fields.length : Int) := by omega
    have et : x.fields.take (j + 1) = x.fields.take j ++ [f] := by rw [List.take_add_one, hf]; rfl
    have hst : (x.fields.take (j + 1)).flatMap (rm1 a b x y) = (x.fields.take j).flatMap (rm1 a b x y) ++ rm1 a b x y f := by rw [et, List.flatMap_append]; simp
    have hlenA := flatMap_lenB (K := 385) (g := rm1 a b x y) (fun s => by have := rm1_len a b x y s; omega) (x.fields.take j)
    rw [List.length_take] at hlenA
    have hlenB : ((x.fields.take j).flatMap (rm1 a b x y)).length ≤ 50000 := by omega
    have hfm := List.mem_of_getElem? hf
    (simp -implicitDefEqProofs +contextual (maxSteps := 8000000) only [go_sem, ↓reduceIte, zn0, zn1, zn2, zn3, zn4, reduceCtorEq, zn5, zi0, zi1, zi2, zi3, zi4, zn6, zn7, zn8, zn9, envVrm, p8, p9, p11, hj, hltj, hmf, forall_eq'])
    refine vc_loop (VmB a b x y τ n l j (nxt st.σ 64) f) (y.fields.length + 1) ⟨0, ⟨by simp [lk, p0], by simp [lk, p6, encTable], by simp [lk, p7, encTable], by simp [lk, p8, encTy], by simp [lk, p9, encTy], ?_, ?_⟩, by simp [lk, p11], by simp [lk], by simp [lk, hasF], by simp [lk], by simp [lk_upd], by omega, by omega⟩ ?_
    · simp only [List.take_zero, List.flatMap_nil, List.append_nil]
      exact (h.same.up (q := 64) (by decide)).up (q := 64) (by decide)
    · exact Aw.up (Aw.up h.av rfl) rfl
    generalize hv : nxt st.σ 64 = v
    clear hv p0 p6 p7 p8 p9 p11 h st
    rintro m2 st ⟨i, h, p11, p12, p13, p14, k64, f1, f2⟩
    have p0 := h.p0; have p6 := h.p6; have p7 := h.p7; have p8 := h.p8; have p9 := h.p9
    have k1 := h.same.lst (by decide) (appL_at _ hτ)
    simp only [encTy, encTable] at p6 p7 p8 p9
    have hlenC := flatMap_lenB (rmQ_len a b x y f) (y.fields.take i)
    rw [List.length_take] at hlenC
    generalize hcs : (x.fields.take j).flatMap (rm1 a b x y) ++ (y.fields.take i).flatMap (rmQ a b x y f) = cs at h p0 k1
    have hcl : cs.length ≤ 200000 := by rw [← hcs, List.length_append]; omega
    have hcap2 : (l.length + cs.length + 1) * 40 ≤ 140737488355328 := cap3 hl hcl
    have hcap : ((l ++ cs).length + 1) * 40 ≤ 140737488355328 := by rw [List.length_append]; exact hcap2
    have hol := outs_len (l ++ cs)
    by_cases hi : i < y.fields.length
    · obtain ⟨q, hq⟩ : ∃ q, y.fields[i]? = some q := ⟨y.fields[i], by simp [hi]⟩
      have hmq := get_map (f := encFT) hq
      simp only [encFT] at hmq
      have hwi := wrap1 hi (by omega)
      have hlti : (i : Int) < (y.fields.length : Int) := by omega
      have eti : y.fields.take (i + 1) = y.fields.take i ++ [q] := by rw [List.take_add_one, hq]; rfl
      have hsti : (x.fields.take j).flatMap (rm1 a b x y) ++ (y.fields.take (i + 1)).flatMap (rmQ a b x y f) = cs ++ rmQ a b x y f q := by rw [eti, List.flatMap_append, ← hcs]; simp
      have hha : hasF (y.fields.take (i + 1)) f.number = (hasF (y.fields.take i) f.number || decide (q.number = f.number)) := by rw [eti, hasF_snoc]
      have hqm := List.mem_of_getElem? hq
      by_cases hn : q.number = f.number
      · have he : rmQ a b x y f q = fieldC a b x y f q := by simp [rmQ, hn]
        have hnum : decide (q.number = f.number) = true := by simpa using hn
        have hll : (l ++ cs).length ≤ 2000000000000 := by rw [List.length_append]; omega
        obtain ⟨fn, fm, fk, fr, fl, fo, fy⟩ := f
        dsimp only at hn
        subst hn
        dsimp only at p12 p13 k64 hmf hha
        (simp -implicitDefEqProofs +contextual (maxSteps := 8000000) only [go_sem, ↓reduceIte, zn0, zn1, zn2, zn3, zn4, reduceCtorEq, zn5, zi0, zi1, zi2, zi3, zi4, zn6, zn7, zn8, zn9, envVrm, i_cartoucheref18_fresh, i_cartoucheref18_within, i_cartoucheref18_field, p0, p6, p7, p8, p9, p11, p12, p13, p14, k64, hi, hlti, hmq, hwi, forall_eq'])
        refine vcExD_mk (.lst 1 (n + cs.length + (fieldC a b x y ⟨fn, q.number, fk, fr, fl, fo, fy⟩ q).length)) (appL _ (n + cs.length) (l ++ cs) (fieldC a b x y ⟨fn, q.number, fk, fr, fl, fo, fy⟩ q)) (ref_field_gcD a b x y ⟨fn, q.number, fk, fr, fl, fo, fy⟩ q _ _ _ hll k1 (ok.ky q hqm).1 (ok.kx _ hfm).2 (ok.ky q hqm).2 (ok.fx _ hfm).1 (ok.fy q hqm).1 (ok.fx _ hfm).2 (ok.fy q hqm).2 h.av) ?_
        (simp -implicitDefEqProofs +contextual (maxSteps := 8000000) only [go_sem, ↓reduceIte, zn0, zn1, zn2, zn3, zn4, reduceCtorEq, zn5, zi0, zi1, zi2, zi3, zi4, zn6, zn7, zn8, zn9, envVrm, p14, hwi])
        exact ⟨m2 - 1, by omega, i + 1, h.more hτ _ (by rw [hsti, he]) rfl (by simp [lk]) (by simp [lk]) (by simp [lk]) (by simp [lk]) (by simp [lk]), by simp [lk, p11], by simp [lk, p12], by rw [hha]; simp [lk], by simp [lk], by rw [appL_lk (by decide)]; exact k64, by omega, by omega⟩
      · have he : rmQ a b x y f q = [] := by simp [rmQ, hn]
        (simp -implicitDefEqProofs +contextual (maxSteps := 8000000) only [go_sem, ↓reduceIte, zn0, zn1, zn2, zn3, zn4, reduceCtorEq, zn5, zi0, zi1, zi2, zi3, zi4, zn6, zn7, zn8, zn9, envVrm, p0, p6, p7, p8, p9, p11, p12, p13, p14, k64, hi, hlti, hmq, hwi, hn, forall_eq'])
        exact ⟨m2 - 1, by omega, i + 1, h.keep (by rw [hsti, he, List.append_nil]) rfl (by simp [lk]) (by simp [lk]) (by simp [lk]) (by simp [lk]) (by simp [lk]), by simp [lk, p11], by simp [lk, p12], by rw [hha]; simp [lk, p13, hn], by simp [lk], by simpa using k64, by omega, by omega⟩
    · have hlti : ¬ (i : Int) < (y.fields.length : Int) := by omega
      unfold LstP at k1
      rw [List.take_of_length_le (l := y.fields) (i := i) (by omega)] at p13 hcs
      have hcs2 : (x.fields.take (j + 1)).flatMap (rm1 a b x y) = cs ++ rmN x f (hasF y.fields f.number) := by rw [hst, ← hcs, rm1, List.append_assoc]
      cases hb : hasF y.fields f.number with
      | true =>
        rw [hb] at p13 hcs2
        (simp -implicitDefEqProofs +contextual (maxSteps := 8000000) only [go_sem, ↓reduceIte, zn0, zn1, zn2, zn3, zn4, reduceCtorEq, zn5, zi0, zi1, zi2, zi3, zi4, zn6, zn7, zn8, zn9, envVrm, p0, p8, p9, p11, p12, p13, p14, k64, k1, hi, hlti, hwj])
        exact ⟨m - 1, by omega, j + 1, h.keep (by rw [hcs2]; simp [rmN]) rfl (by simp [lk]) (by simp [lk]) (by simp [lk]) (by simp [lk]) (by simp [lk]), by simp [lk], by omega, by omega⟩
      | false =>
        rw [hb] at p13 hcs2
        (simp -implicitDefEqProofs +contextual (maxSteps := 8000000) only [go_sem, ↓reduceIte, zn0, zn1, zn2, zn3, zn4, reduceCtorEq, zn5, zi0, zi1, zi2, zi3, zi4, zn6, zn7, zn8, zn9, envVrm, p0, p8, p9, p11, p12, p13, p14, k64, k1, hi, hlti, hwj, hol, hcap])
        exact ⟨hcap2, m - 1, by omega, j + 1, h.next hτ ⟨4, 5, x.name, f.number⟩ (by rw [hcs2]; simp [rmN]) rfl (by simp [lk]) (by simp [lk]) (by simp [lk]) (by simp [lk]) (by simp [lk]), by simp [lk], by omega, by omega⟩
  · have hltj : ¬ (j : Int) < (x.fields.length : Int) := by omega
    rw [List.take_of_length_le (l := x.fields) (i := j) (by omega)] at h
    (simp -implicitDefEqProofs +contextual (maxSteps := 8000000) only [go_sem, ↓reduceIte, zn0, zn1, zn2, zn3, zn4, reduceCtorEq, zn5, zi0, zi1, zi2, zi3, zi4, zn6, zn7, zn8, zn9, envVrm, p8, p9, p11, hj, hltj])
    exact hQ _ (h.keep rfl rfl (by simp [lk]) (by simp [lk]) (by simp [lk]) (by simp [lk]) (by simp [lk]))
end
section
variable (a b : List Ty) (x y : Ty) (τ : Slots) (n : Nat) (l : List Chg)
theorem rmL2_vc {s : St} (h : LmS a b x y τ n l (x.fields.flatMap (rm1 a b x y)) s) (hτ : LstP τ n l) (hl : l.length ≤ 1000000000) (ok : RmOk a b x y) :
    vc envVrm rmL2 (endsGC [.tmp 10] (fun r σ' => r = .lst 1 (n + (rmessC a b x y).length) ∧ SameD dRm σ' (appL τ n l (rmessC a b x y)))) s := by
  have p8 := h.p8; have p9 := h.p9
  have hx := ok.lx; have hy := ok.ly
  have hfr := (g_cartoucheref18_fresh_is x y).trans (if_pos ⟨by omega, by omega⟩)
  simp only [encTy] at p8 p9 hfr
  have hw1 := (g_cartoucheref18_within_is x.rsv y.rsv).trans (if_pos ⟨ok.hx, ok.hy, ok.sx, ok.sy⟩)
  have hw2 := (g_cartoucheref18_within_is y.rsv x.rsv).trans (if_pos ⟨ok.hy, ok.hx, ok.sy, ok.sx⟩)
  simp only [encRs] at hw1 hw2
  have hnl := newF_len x y.fields
  have hlenA := flatMap_lenB (K := 385) (g := rm1 a b x y) (fun s => by have := rm1_len a b x y s; omega) x.fields
  have hlenB : (x.fields.flatMap (rm1 a b x y)).length ≤ 50000 := by omega
  have hrm : rmessC a b x y = x.fields.flatMap (rm1 a b x y) ++ (newF x y.fields).map (rm2 x) ++ rm3 x y := rfl
  simp only [rmL2, A_cartoucheref18_message_r, sq1, sq2]
  (simp -implicitDefEqProofs +contextual (maxSteps := 8000000) only [go_sem, ↓reduceIte, zn0, zn1, zn2, zn3, zn4, reduceCtorEq, zn5, zi0, zi1, zi2, zi3, zi4, zn6, zn7, zn8, zn9, envVrm, i_cartoucheref18_fresh, i_cartoucheref18_within, p8, p9, hfr])
  refine vc_loop (VmC a b x y τ n l) ((newF x y.fields).length + 1) ⟨0, h.keep (by simp) rfl (by simp [lk]) (by simp [lk]) (by simp [lk]) (by simp [lk]) (by simp [lk]), by simp [lk], by simp [lk], by omega, by omega⟩ ?_
  clear p8 p9 h s
  rintro m st ⟨j, h, p15, p16, g1, g2⟩
  have p0 := h.p0; have p8 := h.p8; have p9 := h.p9
  have k1 := h.same.lst (by decide) (appL_at _ hτ)
  unfold LstP at k1
  simp only [encTy] at p8 p9
  by_cases hj : j < (newF x y.fields).length
  · obtain ⟨v, hv⟩ : ∃ v, (newF x y.fields)[j]? = some v := ⟨(newF x y.fields)[j], by simp [hj]⟩
    have hmv := get_map (f := encI) hv
    simp only [encI] at hmv
    have hwj := wrap1 hj (by omega)
    have hltj : (j : Int) < ((newF x y.fields).length : Int) := by omega
    have et : (newF x y.fields).take (j + 1) = (newF x y.fields).take j ++ [v] := by rw [List.take_add_one, hv]; rfl
    have hst : x.fields.flatMap (rm1 a b x y) ++ ((newF x y.fields).take (j + 1)).map (rm2 x) = (x.fields.flatMap (rm1 a b x y) ++ ((newF x y.fields).take j).map (rm2 x)) ++ [⟨2, 6, x.name, v⟩] := by rw [et]; simp [rm2]
    have hcl : (x.fields.flatMap (rm1 a b x y) ++ ((newF x y.fields).take j).map (rm2 x)).length ≤ 200000 := by rw [List.length_append, List.length_map, List.length_take]; omega
    generalize x.fields.flatMap (rm1 a b x y) ++ ((newF x y.fields).take j).map (rm2 x) = cs at h p0 k1 hst hcl
    have hcap2 : (l.length + cs.length + 1) * 40 ≤ 140737488355328 := cap3 hl hcl
    have hcap : ((l ++ cs).length + 1) * 40 ≤ 140737488355328 := by rw [List.length_append]; exact hcap2
    have hol := outs_len (l ++ cs)
    (simp -implicitDefEqProofs +contextual (maxSteps := 8000000) only [go_sem, ↓reduceIte, zn0, zn1, zn2, zn3, zn4, reduceCtorEq, zn5, zi0, zi1, zi2, zi3, zi4, zn6, zn7, zn8, zn9, envVrm, p0, p8, p9, p15, p16, k1, hj, hltj, hmv, hwj, hol, hcap, forall_eq'])
    exact ⟨hcap2, m - 1, by omega, j + 1, h.next hτ ⟨2, 6, x.name, v⟩ hst rfl (by simp [lk]) (by simp [lk]) (by simp [lk]) (by simp [lk]) (by simp [lk]), by simp [lk, p15], by simp [lk], by omega, by omega⟩
  · have hltj : ¬ (j : Int) < ((newF x y.fields).length : Int) := by omega
    rw [List.take_of_length_le (l := newF x y.fields) (i := j) (by omega)] at h p0 k1
    have hcl : (x.fields.flatMap (rm1 a b x y) ++ (newF x y.fields).map (rm2 x)).length ≤ 200000 := by rw [List.length_append, List.length_map]; omega
    generalize x.fields.flatMap (rm1 a b x y) ++ (newF x y.fields).map (rm2 x) = cs at h p0 k1 hrm hcl
    have hcap2 : (l.length + cs.length + 1) * 40 ≤ 140737488355328 := cap3 hl hcl
    have hcap : ((l ++ cs).length + 1) * 40 ≤ 140737488355328 := by rw [List.length_append]; exact hcap2
    have hol := outs_len (l ++ cs)
    cases hb1 : rwB x.rsv y.rsv with
    | false =>
      rw [hb1] at hw1
      have he : rmessC a b x y = cs ++ [⟨4, 10, x.name, 0⟩] := by rw [hrm]; simp [rm3, hb1]
      (simp -implicitDefEqProofs +contextual (maxSteps := 8000000) only [go_sem, ↓reduceIte, zn0, zn1, zn2, zn3, zn4, reduceCtorEq, zn5, zi0, zi1, zi2, zi3, zi4, zn6, zn7, zn8, zn9, envVrm, i_cartoucheref18_fresh, i_cartoucheref18_within, p0, p8, p9, p15, p16, k1, hj, hltj, hw1, hol, hcap])
      exact ⟨hcap2, by rw [nxtL hτ h.same (by decide) ⟨4, 10, x.name, 0⟩, he], by rw [he]; exact h.same.step hτ (by decide) ⟨4, 10, x.name, 0⟩⟩
    | true =>
      rw [hb1] at hw1
      cases hb2 : rwB y.rsv x.rsv with
      | false =>
        rw [hb2] at hw2
        have he : rmessC a b x y = cs ++ [⟨3, 10, x.name, 0⟩] := by rw [hrm]; simp [rm3, hb1, hb2]
        (simp -implicitDefEqProofs +contextual (maxSteps := 8000000) only [go_sem, ↓reduceIte, zn0, zn1, zn2, zn3, zn4, reduceCtorEq, zn5, zi0, zi1, zi2, zi3, zi4, zn6, zn7, zn8, zn9, envVrm, i_cartoucheref18_fresh, i_cartoucheref18_within, p0, p8, p9, p15, p16, k1, hj, hltj, hw1, hw2, hol, hcap])
        exact ⟨hcap2, by rw [nxtL hτ h.same (by decide) ⟨3, 10, x.name, 0⟩, he], by rw [he]; exact h.same.step hτ (by decide) ⟨3, 10, x.name, 0⟩⟩
      | true =>
        rw [hb2] at hw2
        have he : rmessC a b x y = cs := by rw [hrm]; simp [rm3, hb1, hb2]
        (simp -implicitDefEqProofs +contextual (maxSteps := 8000000) only [go_sem, ↓reduceIte, zn0, zn1, zn2, zn3, zn4, reduceCtorEq, zn5, zi0, zi1, zi2, zi3, zi4, zn6, zn7, zn8, zn9, envVrm, i_cartoucheref18_fresh, i_cartoucheref18_within, p0, p8, p9, p15, p16, k1, hj, hltj, hw1, hw2])
        exact ⟨by rw [he], by rw [he]; exact h.same⟩
end
theorem ref_message_gc (a b : List Ty) (x y : Ty) (σ : Slots) (n : Nat) (l : List Chg) (hl : l.length ≤ 1000000000) (hτ : LstP σ n l) (ok : RmOk a b x y) (hav : Aw σ) :
    GC Tryd.prog i_cartoucheref18_message [.lst 1 n, .iv (encTable a), .iv (encTable b), .iv (encTy x), .iv (encTy y)] σ (fun r σ' => r = .lst 1 (n + (rmessC a b x y).length) ∧ SameD dRm σ' (appL σ n l (rmessC a b x y))) := by
  refine GC.vc envVrm_ok F_cartoucheref18_message_r T_cartoucheref18_message_r L_cartoucheref18_message_r ?_
  rw [show A_cartoucheref18_message_r.code = .seq (sq1 A_cartoucheref18_message_r.code) (.seq rmL1 rmL2) from rfl, show A_cartoucheref18_message_r.res = [.tmp 10] from rfl]
  simp only [A_cartoucheref18_message_r, sq1, sq2, args0, zl0, zl1, zl2, zl3, zn1]
  (simp -implicitDefEqProofs +contextual (maxSteps := 8000000) only [go_sem, ↓reduceIte, zn0, zn1, zn2, zn3, zn4, reduceCtorEq, zn5, zi0, zi1, zi2, zi3, zi4, zn6, zn7, zn8, zn9, envVrm, encTy, encTable])
  refine rmL1_vc a b x y σ n l ⟨by simp [lk], by simp [lk, encTable], by simp [lk, encTable], by simp [lk, encTy], by simp [lk, encTy], fun q hq => rfl, hav⟩ hτ hl ok ?_
  intro s' h
  simp only [thenC_normal]
  exact rmL2_vc a b x y σ n l h hτ hl ok
theorem ref_message_gcD (a b : List Ty) (x y : Ty) (σ : Slots) (n : Nat) (l : List Chg) (hl : l.length ≤ 1000000000) (hτ : LstP σ n l) (ok : RmOk a b x y) (h64 : lk σ 64 = none) (hav : Aw σ) :
    GC Tryd.prog i_cartoucheref18_message [.lst 1 n, .iv (encTable a), .iv (encTable b), .iv (encTy x), .iv (encTy y)] σ (fun r σ' => r = .lst 1 (n + (rmessC a b x y).length) ∧ σ' = appL σ n l (rmessC a b x y)) := by
  have hd : ∀ q, dRm q = true → lk σ q = none := fun q hq => by simp only [dRm, decide_eq_true_eq] at hq; subst hq; exact h64
  exact GC.drop dRm _ _ rfl hd (fun r σ' h => ⟨h.1, fun q => appL_drop hd (by decide) h.2 q⟩) (hav.app.to dRm_dR) (ref_message_gc a b x y σ n l hl hτ ok hav)
noncomputable def rd1 (a b : List Ty) (x : Ty) : List Chg := match fN b x.name with
  | none => [⟨4, 1, x.name, 0⟩]
  | some y => if x.enum = y.enum then (if x.enum = true then renumC x y else rmessC a b x y) else [⟨4, 2, x.name, 0⟩]
noncomputable def refC (a b : List Ty) : List Chg := a.flatMap (rd1 a b) ++ b.flatMap (df2 a)
structure RP (a b : List Ty) : Prop where
  la : a.length ≤ 128
  lb : b.length ≤ 128
  sa : ∀ x ∈ a, x.syms.length ≤ 128 ∧ x.fields.length ≤ 128
  sb : ∀ x ∈ b, x.syms.length ≤ 128 ∧ x.fields.length ≤ 128
  mo : ∀ x ∈ a, ∀ y ∈ b, x.enum = false → y.enum = false → RmOk a b x y
theorem renumC_len {x y : Ty} (hx : x.syms.length ≤ 128) (hy : y.syms.length ≤ 128) : (renumC x y).length ≤ 100000 := by
  have h1 := flatMap_lenB (K := 129) (g := re1 x y) (fun s => by have := re1_len x y s; omega) x.syms
  have h2 := flatMap_len (re2_len x) y.syms
  simp only [renumC, List.length_append]; omega
theorem rmessC_len {a b : List Ty} {x y : Ty} (hx : x.fields.length ≤ 128) (hy : y.fields.length ≤ 128) : (rmessC a b x y).length ≤ 100000 := by
  have h1 := flatMap_lenB (K := 385) (g := rm1 a b x y) (fun s => by have := rm1_len a b x y s; omega) x.fields
  have h2 := newF_len x y.fields
  have h3 : (rm3 x y).length ≤ 1 := by unfold rm3; split; simp; split <;> simp
  simp only [rmessC, List.length_append, List.length_map]; omega
theorem rd1_len {a b : List Ty} (h : RP a b) {x : Ty} (hx : x ∈ a) : (rd1 a b x).length ≤ 100000 := by
  unfold rd1
  split
  · simp
  · rename_i y hy
    have hyb := fN_mem hy
    split
    · split
      · exact renumC_len (h.sa x hx).1 (h.sb y hyb).1
      · exact rmessC_len (h.sa x hx).2 (h.sb y hyb).2
    · simp
theorem df2_len1 (a : List Ty) (y : Ty) : (df2 a y).length ≤ 1 := by unfold df2; split <;> simp
theorem flatMap_lenR {α : Type} {g : α → List Chg} : ∀ l : List α, (∀ s ∈ l, (g s).length ≤ 100000) → (l.flatMap g).length ≤ 100000 * l.length
  | [], _ => by simp
  | s :: l, hg => by
    have h1 := hg s (List.mem_cons_self ..)
    have h2 := flatMap_lenR l fun s hs => hg s (List.mem_cons_of_mem _ hs)
    simp only [List.flatMap_cons, List.length_append, List.length_cons]; omega
theorem findI_fN (t : List Ty) (h : ByteArray) : (fN t h = none ∧ findR t h = .int .i64 (-1)) ∨ ∃ (i : Nat) (y : Ty), t[i]? = some y ∧ fN t h = some y ∧ findR t h = .int .i64 (i : Int) := by
  unfold fN findR findI
  cases e : t.findIdx? (fun y => decide (y.name = h)) with
  | none =>
    left
    rw [List.findIdx?_eq_none_iff] at e
    exact ⟨List.find?_eq_none.2 fun y hy => by simp [e y hy], rfl⟩
  | some i =>
    right
    rw [List.findIdx?_eq_some_iff_getElem] at e
    obtain ⟨h1, h2, h3⟩ := e
    refine ⟨i, t[i], by simp [h1], ?_, rfl⟩
    rw [List.find?_eq_some_iff_getElem]
    exact ⟨h2, i, h1, rfl, fun j hj => by simpa using h3 j hj⟩
def dDr (q : Nat) : Bool := decide (q = 0 ∨ q = 2)
structure DrS (a b : List Ty) (τ : Slots) (n : Nat) (cs : List Chg) (st : St) : Prop where
  p6 : lk st.ρ 6 = some (.lst 1 (n + cs.length))
  p2 : lk st.ρ 2 = some (.iv (.ref (encTable a)))
  p3 : lk st.ρ 3 = some (.iv (.ref (encTable b)))
  same : SameD dDr st.σ (appL τ n [] cs)
  av : Aw st.σ
structure TauR (τ : Slots) (n : Nat) : Prop where
  lst : LstP τ n []
  n60 : lk τ 60 = none
  n64 : lk τ 64 = none
section
variable {a b : List Ty} {τ : Slots} {n : Nat} {cs : List Chg}
theorem LstP.nil {σ : Slots} {n : Nat} (h : LstP σ n ([] ++ cs)) : LstP σ n cs := h
theorem DrS.next {st : St} (h : DrS a b τ n cs st) (hτ : TauR τ n) (c : Chg) {cs' : List Chg} {st' : St} {σ : Slots} (hs : SameD dDr σ (appL τ n [] cs)) (hav : Aw σ) (e : cs' = cs ++ [c]) (hσ : st'.σ = upd σ 1 (nxt σ 1, .list 101 4 (outs cs ++ [encChg c]))) (h6 : lk st'.ρ 6 = some (.lst 1 (nxt σ 1))) (h2 : lk st'.ρ 2 = lk st.ρ 2) (h3 : lk st'.ρ 3 = lk st.ρ 3) : DrS a b τ n cs' st' := by
  subst e
  refine ⟨?_, h2 ▸ h.p2, h3 ▸ h.p3, ?_, ?_⟩
  · rw [h6, nxtL hτ.lst hs (by decide) c]
  · rw [hσ]; exact hs.step hτ.lst (by decide) c
  · rw [hσ]; exact hav.up rfl
theorem DrS.keep {st : St} (h : DrS a b τ n cs st) {cs' : List Chg} {st' : St} (hs : SameD dDr st'.σ (appL τ n [] cs)) (hav : Aw st'.σ) (e : cs' = cs) (h6 : lk st'.ρ 6 = lk st.ρ 6) (h2 : lk st'.ρ 2 = lk st.ρ 2) (h3 : lk st'.ρ 3 = lk st.ρ 3) : DrS a b τ n cs' st' := by
  subst e
  exact ⟨h6 ▸ h.p6, h2 ▸ h.p2, h3 ▸ h.p3, hs, hav⟩
theorem DrS.more {st : St} (h : DrS a b τ n cs st) (hτ : TauR τ n) (ds : List Chg) {cs' : List Chg} {st' : St} {σ : Slots} (hs : SameD dDr σ (appL τ n [] cs)) (hav : Aw σ) (e : cs' = cs ++ ds) (hσ : st'.σ = appL σ (n + cs.length) cs ds) (h6 : lk st'.ρ 6 = some (.lst 1 (n + cs.length + ds.length))) (h2 : lk st'.ρ 2 = lk st.ρ 2) (h3 : lk st'.ρ 3 = lk st.ρ 3) : DrS a b τ n cs' st' := by
  subst e
  refine ⟨?_, h2 ▸ h.p2, h3 ▸ h.p3, ?_, ?_⟩
  · rw [h6, List.length_append, Nat.add_assoc]
  · rw [hσ, ← appL_appL cs ds hτ.lst]; exact hs.app
  · rw [hσ]; exact hav.app
def DrI (a b : List Ty) (τ : Slots) (n : Nat) (m : Nat) (st : St) : Prop := ∃ j : Nat, DrS a b τ n ((a.take j).flatMap (rd1 a b)) st ∧ lk st.ρ 7 = some (.iv (.int .i64 (j : Int))) ∧ j ≤ a.length ∧ a.length < j + m
def DrJ (a b : List Ty) (τ : Slots) (n : Nat) (m : Nat) (st : St) : Prop := ∃ j : Nat, DrS a b τ n (a.flatMap (rd1 a b) ++ (b.take j).flatMap (df2 a)) st ∧ lk st.ρ 11 = some (.iv (.int .i64 (j : Int))) ∧ j ≤ b.length ∧ b.length < j + m
end
theorem callOk58 : callOk Tryd.prog 58 = true := by kernel_rfl
theorem callOk59 : callOk Tryd.prog 59 = true := by kernel_rfl
noncomputable def envVdr : Env := { split := true, fc := [(i_cartoucheref7_Find, g_cartoucheref7_Find)], gr := [(58, fun vs σ Q => GC Tryd.prog 58 vs σ Q), (59, fun vs σ Q => GC Tryd.prog 59 vs σ Q)] }
theorem envVdr_ok : EnvOk Tryd.prog envVdr := ((EnvOk.noneS.addR callOk59).addR callOk58).addF g_cartoucheref7_Find_ok
section
variable {a b : List Ty}
theorem drL1_vc {Q : AEx → St → Prop} {s : St} (hg : RP a b) (p2 : lk s.ρ 2 = some (.iv (.ref (encTable a)))) (p3 : lk s.ρ 3 = some (.iv (.ref (encTable b)))) (p6 : lk s.ρ 6 = some (.iv .nil)) (hσ : s.σ = [])
    (hQ : ∀ s', DrS a b [(1, 0, .list 101 4 [])] 0 (a.flatMap (rd1 a b)) s' → Q .normal s') : vc envVdr (sq1 (sq2 (sq2 A_cartoucheref18_Diff_r.code))) Q s := by
  simp only [encTable] at p2 p3
  have la := hg.la
  have lb := hg.lb
  have hτ : TauR [(1, 0, .list 101 4 [])] 0 := ⟨by simp [LstP, lk, outs], by simp [lk], by simp [lk]⟩
  simp only [A_cartoucheref18_Diff_r, sq1, sq2]
  (simp -implicitDefEqProofs +contextual (maxSteps := 8000000) only [go_sem, ↓reduceIte, zn0, zn1, zn2, zn3, zn4, reduceCtorEq, zn5, zi0, zi1, zi2, zi3, zi4, zn6, zn7, zn8, zn9, envVdr, p2, p3, p6])
  refine vc_loopN 6 1 101 4 (DrI a b [(1, 0, .list 101 4 [])] 0) (a.length + 1) (by simp [lk, p6]) ⟨0, ⟨by simp [lk, hσ, nxt], by simp [lk, p2, encTable], by simp [lk, p3, encTable], ?_, ?_⟩, by simp [lk], by omega, by omega⟩ ?_
  · simp only [hσ]; exact fun q hq => rfl
  · simp only [hσ]; exact Aw.up (σ := []) (fun q n it h => by cases h) rfl
  clear p2 p3 p6 hσ s
  generalize ([(1, 0, Item.list 101 4 [])] : Slots) = τ at *
  rintro m st ⟨j, h, p7, g1, g2⟩
  have p2 := h.p2; have p3 := h.p3; have p6 := h.p6; have hs := h.same; have hav := h.av
  simp only [encTable] at p2 p3
  by_cases hj : j < a.length
  · obtain ⟨x, hx⟩ : ∃ x, a[j]? = some x := ⟨a[j], by simp [hj]⟩
    have hmx := get_map (f := encTy) hx
    simp only [encTy] at hmx
    have hwj := wrap1 hj (by omega)
    have hltj : (j : Int) < (a.length : Int) := by omega
    have et : a.take (j + 1) = a.take j ++ [x] := by rw [List.take_add_one, hx]; rfl
    have hst : (a.take (j + 1)).flatMap (rd1 a b) = (a.take j).flatMap (rd1 a b) ++ rd1 a b x := by rw [et, List.flatMap_append]; simp
    have hlen := flatMap_lenR (g := rd1 a b) (a.take j) fun s hs => rd1_len hg (List.mem_of_mem_take hs)
    rw [List.length_take] at hlen
    have hxm := List.mem_of_getElem? hx
    have hcl : ((a.take j).flatMap (rd1 a b)).length ≤ 100000000 := by omega
    generalize (a.take j).flatMap (rd1 a b) = cs at h hs p6 hst hcl
    have k1 : lk st.σ 1 = some (0 + cs.length, .list 101 4 (outs cs)) := hs.lst (by decide) (appL_at _ hτ.lst)
    have hcap : (cs.length + 1) * 40 ≤ 140737488355328 := by clear hlen; omega
    have hol := outs_len cs
    have hfd := (g_cartoucheref7_Find_is b x.name).trans (if_pos (by omega))
    simp only [encTable] at hfd
    have hno : ∀ (q : Nat) (x1 x2 : Nat × Item), ¬ q = 0 → ¬ q = 1 → ¬ q = 2 → lk (upd (upd st.σ 0 x1) 0 x2) q = lk τ q := by
      intro q x1 x2 h0 h1 h2
      rw [lk_upd, if_neg (Ne.symm h0), lk_upd, if_neg (Ne.symm h0), hs q (by simp only [dDr, decide_eq_false_iff_not]; omega), appL_lk h1]
    rcases findI_fN b x.name with ⟨hf, hfr⟩ | ⟨i, y, hy, hf, hfr⟩
    · have he : rd1 a b x = [⟨4, 1, x.name, 0⟩] := by simp [rd1, hf]
      rw [hfr] at hfd
      (simp -implicitDefEqProofs +contextual (maxSteps := 8000000) only [go_sem, ↓reduceIte, zn0, zn1, zn2, zn3, zn4, reduceCtorEq, zn5, zi0, zi1, zi2, zi3, zi4, zn6, zn7, zn8, zn9, envVdr, p2, p3, p6, p7, hj, hltj, hmx, hwj, hfd, k1, hol, hcap, forall_eq'])
      exact ⟨m - 1, by omega, j + 1, h.next hτ ⟨4, 1, x.name, 0⟩ ((hs.up (q := 0) (by decide)).up (q := 0) (by decide)) (Aw.up (Aw.up hav rfl) rfl) (by rw [hst, he]) rfl (by simp [lk]) (by simp [lk]) (by simp [lk]), by simp [lk], by omega, by omega⟩
    · rw [hfr] at hfd
      have hym := fN_mem hf
      have hmy := get_map (f := encTy) hy
      have hi2 := (List.getElem?_eq_some_iff.1 hy).1
      have hlti : (i : Int) < (b.length : Int) := by omega
      have hni : ¬ (i : Int) < 0 := by omega
      simp only [encTy] at hmy
      have hsx := hg.sa x hxm
      have hsy := hg.sb y hym
      have hmo := hg.mo x hxm y hym
      have hU : ∀ x1 x2 x3 x4, SameD dDr (upd (upd (upd (upd st.σ 0 x1) 0 x2) 2 x3) 2 x4) (appL τ 0 [] cs) := fun _ _ _ _ => (((hs.up (q := 0) (by decide)).up (q := 0) (by decide)).up (q := 2) (by decide)).up (q := 2) (by decide)
      have hno2 : ∀ (q : Nat) (x1 x2 x3 x4 : Nat × Item), ¬ q = 0 → ¬ q = 1 → ¬ q = 2 → lk (upd (upd (upd (upd st.σ 0 x1) 0 x2) 2 x3) 2 x4) q = lk τ q := by
        intro q x1 x2 x3 x4 h0 h1 h2
        rw [hU x1 x2 x3 x4 q (by simp only [dDr, decide_eq_false_iff_not]; omega), appL_lk h1]
      obtain ⟨xn, xe, xf, xo, xs, xr⟩ := x
      obtain ⟨yn, ye, yf, yo, ys, yr⟩ := y
      dsimp only at hmx hmy hfd hf hsx hsy hmo
      cases xe <;> cases ye
      · have he : rd1 a b ⟨xn, false, xf, xo, xs, xr⟩ = rmessC a b ⟨xn, false, xf, xo, xs, xr⟩ ⟨yn, false, yf, yo, ys, yr⟩ := by simp [rd1, hf]
        (simp -implicitDefEqProofs +contextual (maxSteps := 8000000) only [go_sem, ↓reduceIte, zn0, zn1, zn2, zn3, zn4, reduceCtorEq, zn5, zi0, zi1, zi2, zi3, zi4, zn6, zn7, zn8, zn9, envVdr, p2, p3, p6, p7, hj, hltj, hmx, hmy, hwj, hfd, hi2, hlti, hni, k1, hol, hcap, forall_eq'])
        refine vcExD_mk (.lst 1 (0 + cs.length + (rmessC a b ⟨xn, false, xf, xo, xs, xr⟩ ⟨yn, false, yf, yo, ys, yr⟩).length)) (appL _ (0 + cs.length) cs (rmessC a b ⟨xn, false, xf, xo, xs, xr⟩ ⟨yn, false, yf, yo, ys, yr⟩)) (ref_message_gcD a b ⟨xn, false, xf, xo, xs, xr⟩ ⟨yn, false, yf, yo, ys, yr⟩ _ _ cs (by omega) ((hU _ _ _ _).lst (by decide) (appL_at _ hτ.lst)) (hmo rfl rfl) ((hno2 64 _ _ _ _ (by decide) (by decide) (by decide)).trans hτ.n64) (Aw.up (Aw.up (Aw.up (Aw.up hav rfl) rfl) rfl) rfl)) ?_
        (simp -implicitDefEqProofs +contextual (maxSteps := 8000000) only [go_sem, ↓reduceIte, zn0, zn1, zn2, zn3, zn4, reduceCtorEq, zn5, zi0, zi1, zi2, zi3, zi4, zn6, zn7, zn8, zn9, envVdr, p7, hwj])
        exact ⟨m - 1, by omega, j + 1, h.more hτ _ (hU _ _ _ _) (Aw.up (Aw.up (Aw.up (Aw.up hav rfl) rfl) rfl) rfl) (by rw [hst, he]) rfl (by simp [lk]) (by simp [lk]) (by simp [lk]), by simp [lk], by omega, by omega⟩
      · have he : rd1 a b ⟨xn, false, xf, xo, xs, xr⟩ = [⟨4, 2, xn, 0⟩] := by simp [rd1, hf]
        (simp -implicitDefEqProofs +contextual (maxSteps := 8000000) only [go_sem, ↓reduceIte, zn0, zn1, zn2, zn3, zn4, reduceCtorEq, zn5, zi0, zi1, zi2, zi3, zi4, zn6, zn7, zn8, zn9, envVdr, p2, p3, p6, p7, hj, hltj, hmx, hmy, hwj, hfd, hi2, hlti, hni, k1, hol, hcap, forall_eq'])
        exact ⟨m - 1, by omega, j + 1, h.next hτ ⟨4, 2, xn, 0⟩ (hU _ _ _ _) (Aw.up (Aw.up (Aw.up (Aw.up hav rfl) rfl) rfl) rfl) (by rw [hst, he]) rfl (by simp [lk]) (by simp [lk]) (by simp [lk]), by simp [lk], by omega, by omega⟩
      · have he : rd1 a b ⟨xn, true, xf, xo, xs, xr⟩ = [⟨4, 2, xn, 0⟩] := by simp [rd1, hf]
        (simp -implicitDefEqProofs +contextual (maxSteps := 8000000) only [go_sem, ↓reduceIte, zn0, zn1, zn2, zn3, zn4, reduceCtorEq, zn5, zi0, zi1, zi2, zi3, zi4, zn6, zn7, zn8, zn9, envVdr, p2, p3, p6, p7, hj, hltj, hmx, hmy, hwj, hfd, hi2, hlti, hni, k1, hol, hcap, forall_eq'])
        exact ⟨m - 1, by omega, j + 1, h.next hτ ⟨4, 2, xn, 0⟩ (hU _ _ _ _) (Aw.up (Aw.up (Aw.up (Aw.up hav rfl) rfl) rfl) rfl) (by rw [hst, he]) rfl (by simp [lk]) (by simp [lk]) (by simp [lk]), by simp [lk], by omega, by omega⟩
      · have he : rd1 a b ⟨xn, true, xf, xo, xs, xr⟩ = renumC ⟨xn, true, xf, xo, xs, xr⟩ ⟨yn, true, yf, yo, ys, yr⟩ := by simp [rd1, hf]
        (simp -implicitDefEqProofs +contextual (maxSteps := 8000000) only [go_sem, ↓reduceIte, zn0, zn1, zn2, zn3, zn4, reduceCtorEq, zn5, zi0, zi1, zi2, zi3, zi4, zn6, zn7, zn8, zn9, envVdr, p2, p3, p6, p7, hj, hltj, hmx, hmy, hwj, hfd, hi2, hlti, hni, k1, hol, hcap, forall_eq'])
        refine vcExD_mk (.lst 1 (0 + cs.length + (renumC ⟨xn, true, xf, xo, xs, xr⟩ ⟨yn, true, yf, yo, ys, yr⟩).length)) (appL _ (0 + cs.length) cs (renumC ⟨xn, true, xf, xo, xs, xr⟩ ⟨yn, true, yf, yo, ys, yr⟩)) (ref_enum_gcD ⟨xn, true, xf, xo, xs, xr⟩ ⟨yn, true, yf, yo, ys, yr⟩ _ _ cs (by omega) ((hU _ _ _ _).lst (by decide) (appL_at _ hτ.lst)) hsx.1 hsy.1 ((hno2 60 _ _ _ _ (by decide) (by decide) (by decide)).trans hτ.n60) (Aw.up (Aw.up (Aw.up (Aw.up hav rfl) rfl) rfl) rfl)) ?_
        (simp -implicitDefEqProofs +contextual (maxSteps := 8000000) only [go_sem, ↓reduceIte, zn0, zn1, zn2, zn3, zn4, reduceCtorEq, zn5, zi0, zi1, zi2, zi3, zi4, zn6, zn7, zn8, zn9, envVdr, p7, hwj])
        exact ⟨m - 1, by omega, j + 1, h.more hτ _ (hU _ _ _ _) (Aw.up (Aw.up (Aw.up (Aw.up hav rfl) rfl) rfl) rfl) (by rw [hst, he]) rfl (by simp [lk]) (by simp [lk]) (by simp [lk]), by simp [lk], by omega, by omega⟩
  · have hltj : ¬ (j : Int) < (a.length : Int) := by omega
    rw [List.take_of_length_le (l := a) (i := j) (by omega)] at h
    (simp -implicitDefEqProofs +contextual (maxSteps := 8000000) only [go_sem, ↓reduceIte, zn0, zn1, zn2, zn3, zn4, reduceCtorEq, zn5, zi0, zi1, zi2, zi3, zi4, zn6, zn7, zn8, zn9, envVdr, p2, p3, p6, p7, hj, hltj])
    exact hQ _ (h.keep h.same h.av rfl (by simp [lk]) (by simp [lk]) (by simp [lk]))
end
section
variable {a b : List Ty} {τ : Slots} {n : Nat}
theorem drL2_vc {Q : AEx → St → Prop} {s : St} (hg : RP a b) (hτ : TauR τ n) (h : DrS a b τ n (a.flatMap (rd1 a b)) s)
    (hQ : ∀ s', DrS a b τ n (refC a b) s' → Q .normal s') : vc envVdr (sq1 (sq2 (sq2 (sq2 A_cartoucheref18_Diff_r.code)))) Q s := by
  have p2 := h.p2; have p3 := h.p3
  simp only [encTable] at p2 p3
  have la := hg.la
  have lb := hg.lb
  simp only [A_cartoucheref18_Diff_r, sq1, sq2]
  (simp -implicitDefEqProofs +contextual (maxSteps := 8000000) only [go_sem, ↓reduceIte, zn0, zn1, zn2, zn3, zn4, reduceCtorEq, zn5, zi0, zi1, zi2, zi3, zi4, zn6, zn7, zn8, zn9, envVdr, p2, p3])
  refine vc_loop (DrJ a b τ n) (b.length + 1) ⟨0, h.keep h.same h.av (by simp) (by simp [lk]) (by simp [lk]) (by simp [lk]), by simp [lk], by omega, by omega⟩ ?_
  clear p2 p3 h s
  rintro m st ⟨j, h, p11, g1, g2⟩
  have p2 := h.p2; have p3 := h.p3; have p6 := h.p6; have hs := h.same; have hav := h.av
  simp only [encTable] at p2 p3
  by_cases hj : j < b.length
  · obtain ⟨y, hy⟩ : ∃ y, b[j]? = some y := ⟨b[j], by simp [hj]⟩
    have hmy := get_map (f := encTy) hy
    simp only [encTy] at hmy
    have hwj := wrap1 hj (by omega)
    have hltj : (j : Int) < (b.length : Int) := by omega
    have et : b.take (j + 1) = b.take j ++ [y] := by rw [List.take_add_one, hy]; rfl
    have hst : a.flatMap (rd1 a b) ++ (b.take (j + 1)).flatMap (df2 a) = (a.flatMap (rd1 a b) ++ (b.take j).flatMap (df2 a)) ++ df2 a y := by rw [et, List.flatMap_append]; simp
    have hlenA := flatMap_lenR (g := rd1 a b) a fun s hs => rd1_len hg hs
    have hlenB := flatMap_len (df2_len1 a) (b.take j)
    rw [List.length_take] at hlenB
    have hcl : (a.flatMap (rd1 a b) ++ (b.take j).flatMap (df2 a)).length ≤ 100000000 := by rw [List.length_append]; omega
    generalize a.flatMap (rd1 a b) ++ (b.take j).flatMap (df2 a) = cs at h hs p6 hst hcl
    have k1 : lk st.σ 1 = some (n + cs.length, .list 101 4 (outs cs)) := hs.lst (by decide) (appL_at _ hτ.lst)
    have hcap : (cs.length + 1) * 40 ≤ 140737488355328 := by clear hlenA hlenB; omega
    have hol := outs_len cs
    have hfd := (g_cartoucheref7_Find_is a y.name).trans (if_pos (by omega))
    simp only [encTable] at hfd
    rcases findI_fN a y.name with ⟨hf, hfr⟩ | ⟨i, x, hx, hf, hfr⟩
    · have he : df2 a y = [⟨2, 11, y.name, 0⟩] := by simp [df2, hf]
      rw [hfr] at hfd
      (simp -implicitDefEqProofs +contextual (maxSteps := 8000000) only [go_sem, ↓reduceIte, zn0, zn1, zn2, zn3, zn4, reduceCtorEq, zn5, zi0, zi1, zi2, zi3, zi4, zn6, zn7, zn8, zn9, envVdr, p2, p3, p6, p11, hj, hltj, hmy, hwj, hfd, k1, hol, hcap, forall_eq'])
      exact ⟨m - 1, by omega, j + 1, h.next hτ ⟨2, 11, y.name, 0⟩ hs hav (by rw [hst, he]) rfl (by simp [lk]) (by simp [lk]) (by simp [lk]), by simp [lk], by omega, by omega⟩
    · have he : df2 a y = [] := by simp [df2, hf]
      rw [hfr] at hfd
      have hni : ¬ (i : Int) < 0 := by omega
      (simp -implicitDefEqProofs +contextual (maxSteps := 8000000) only [go_sem, ↓reduceIte, zn0, zn1, zn2, zn3, zn4, reduceCtorEq, zn5, zi0, zi1, zi2, zi3, zi4, zn6, zn7, zn8, zn9, envVdr, p2, p3, p6, p11, hj, hltj, hmy, hwj, hfd, hni, forall_eq'])
      exact ⟨m - 1, by omega, j + 1, h.keep hs hav (by rw [hst, he, List.append_nil]) (by simp [lk]) (by simp [lk]) (by simp [lk]), by simp [lk], by omega, by omega⟩
  · have hltj : ¬ (j : Int) < (b.length : Int) := by omega
    rw [List.take_of_length_le (l := b) (i := j) (by omega)] at h
    (simp -implicitDefEqProofs +contextual (maxSteps := 8000000) only [go_sem, ↓reduceIte, zn0, zn1, zn2, zn3, zn4, reduceCtorEq, zn5, zi0, zi1, zi2, zi3, zi4, zn6, zn7, zn8, zn9, envVdr, p2, p3, p6, p11, hj, hltj])
    exact hQ _ (h.keep h.same h.av rfl (by simp [lk]) (by simp [lk]) (by simp [lk]))
def WrI (L : List Chg) (k : Nat) (m : Nat) (st : St) : Prop := ∃ j : Nat, lk st.ρ 6 = some (.lst 1 k) ∧ lk st.ρ 12 = some (.iv (.int .i64 (worstN (L.take j)))) ∧ lk st.ρ 13 = some (.iv (.int .i64 (j : Int))) ∧
  lk st.σ 1 = some (k, .list 101 4 (outs L)) ∧ j ≤ L.length ∧ L.length < j + m
noncomputable def refR (a b : List Ty) : IV := .tup [.slice (outs (refC a b)), .int .i64 (worstN (refC a b))]
theorem drL3_vc {s : St} (hg : RP a b) (hτ : TauR τ n) (h : DrS a b τ n (refC a b) s) : vc envVdr (sq2 (sq2 (sq2 (sq2 A_cartoucheref18_Diff_r.code)))) (endsFC [.tmp 4, .tmp 5] (· = refR a b)) s := by
  have p6 := h.p6
  have hs := h.same
  have la := hg.la
  have lb := hg.lb
  have hlenA := flatMap_lenR (g := rd1 a b) a fun s hs => rd1_len hg hs
  have hlenB := flatMap_len (df2_len1 a) b
  have hcl : (refC a b).length ≤ 100000000 := by unfold refC; rw [List.length_append]; omega
  unfold refR
  generalize refC a b = L at h hs p6 hcl
  have k1 : lk s.σ 1 = some (n + L.length, .list 101 4 (outs L)) := hs.lst (by decide) (appL_at _ hτ.lst)
  generalize n + L.length = k at k1 p6
  have hol := outs_len L
  clear h hs hlenA hlenB
  simp only [A_cartoucheref18_Diff_r, sq2]
  (simp -implicitDefEqProofs +contextual (maxSteps := 8000000) only [go_sem, ↓reduceIte, zn0, zn1, zn2, zn3, zn4, reduceCtorEq, zn5, zi0, zi1, zi2, zi3, zi4, zn6, zn7, zn8, zn9, envVdr, p6])
  refine vc_loop (WrI L k) (L.length + 1) ⟨0, by simp [lk, p6], by simp [lk, worstN], by simp [lk], by simpa using k1, by omega, by omega⟩ ?_
  clear p6 k1 s
  rintro m s ⟨j, p6, p12, p13, k1, g1, g2⟩
  by_cases hj : j < L.length
  · obtain ⟨c, hc⟩ : ∃ c, L[j]? = some c := ⟨L[j], by simp [hj]⟩
    have hmc : (outs L)[j]? = some (encChg c) := get_map (f := encChg) hc
    simp only [encChg] at hmc
    have hw := wrap1 hj (by omega)
    have hlt : (j : Int) < (L.length : Int) := by omega
    have et : L.take (j + 1) = L.take j ++ [c] := by rw [List.take_add_one, hc]; rfl
    have hfl := flat_outs L
    have hb4 : j * 4 + 4 ≤ L.length * 4 := by omega
    have hwo : (if worstN (L.take j) < c.cls then c.cls else worstN (L.take j)) = worstN (L.take (j + 1)) := by rw [et, worstN_snoc]; rfl
    (simp -implicitDefEqProofs +contextual (maxSteps := 8000000) only [go_sem, ↓reduceIte, zn0, zn1, zn2, zn3, zn4, reduceCtorEq, zn5, zi0, zi1, zi2, zi3, zi4, zn6, zn7, zn8, zn9, envVdr, p6, p12, p13, k1, hol, hj, hlt, hmc, hw, hfl, hb4, forall_eq'])
    exact ⟨m - 1, by omega, j + 1, by simp [lk, p6], by simp [lk, hwo], by simp [lk], by simp [k1], by omega, by omega⟩
  · have hlt : ¬ (j : Int) < (L.length : Int) := by omega
    rw [List.take_of_length_le (l := L) (i := j) (by omega)] at p12
    (simp -implicitDefEqProofs +contextual (maxSteps := 8000000) only [go_sem, ↓reduceIte, zn0, zn1, zn2, zn3, zn4, reduceCtorEq, zn5, zi0, zi1, zi2, zi3, zi4, zn6, zn7, zn8, zn9, envVdr, p6, p12, p13, k1, hol, hj, hlt])
end
theorem ref_Diff_fc (a b : List Ty) (hg : RP a b) : FC Tryd.prog i_cartoucheref18_Diff [encTable a, encTable b] (· = refR a b) := by
  refine FC.vc envVdr_ok F_cartoucheref18_Diff_r T_cartoucheref18_Diff_r L_cartoucheref18_Diff_r ?_
  rw [show A_cartoucheref18_Diff_r.code = .seq (sq1 A_cartoucheref18_Diff_r.code) (.seq (sq1 (sq2 A_cartoucheref18_Diff_r.code)) (.seq (sq1 (sq2 (sq2 A_cartoucheref18_Diff_r.code))) (.seq (sq1 (sq2 (sq2 (sq2 A_cartoucheref18_Diff_r.code)))) (sq2 (sq2 (sq2 (sq2 A_cartoucheref18_Diff_r.code))))))) from rfl, show A_cartoucheref18_Diff_r.res = [.tmp 4, .tmp 5] from rfl]
  have h1 := fun {Q : AEx → St → Prop} {s : St} => drL1_vc (a := a) (b := b) (Q := Q) (s := s) hg
  have h2 := fun {Q : AEx → St → Prop} {s : St} => drL2_vc (a := a) (b := b) (τ := [(1, 0, .list 101 4 [])]) (n := 0) (Q := Q) (s := s) hg
  have h3 := fun {s : St} => drL3_vc (a := a) (b := b) (τ := [(1, 0, .list 101 4 [])]) (n := 0) (s := s) hg
  have hτ : TauR [(1, 0, .list 101 4 [])] 0 := ⟨by simp [LstP, lk, outs], by simp [lk], by simp [lk]⟩
  generalize sq1 (sq2 (sq2 A_cartoucheref18_Diff_r.code)) = c1 at h1 ⊢
  generalize sq1 (sq2 (sq2 (sq2 A_cartoucheref18_Diff_r.code))) = c2 at h2 ⊢
  generalize sq2 (sq2 (sq2 (sq2 A_cartoucheref18_Diff_r.code))) = c3 at h3 ⊢
  simp only [A_cartoucheref18_Diff_r, sq1, sq2, args0, zl0, zl1, zl2, zl3, zn1]
  (simp -implicitDefEqProofs +contextual (maxSteps := 8000000) only [go_sem, ↓reduceIte, zn0, zn1, zn2, zn3, zn4, reduceCtorEq, zn5, zi0, zi1, zi2, zi3, zi4, zn6, zn7, zn8, zn9, envVdr, encTable])
  refine h1 (by simp [lk, encTable]) (by simp [lk, encTable]) (by simp [lk]) rfl ?_
  intro s' h
  simp only [thenC_normal, vc_seq]
  refine h2 hτ h ?_
  intro s' h
  simp only [thenC_normal]
  exact h3 hτ h
def Cov (l : List Rng) (n : Int) : Prop := ∃ r ∈ l, r.low ≤ n ∧ n ≤ r.high
def Gap (k : Int) (l : List Rng) : Prop := l.Pairwise (fun p q => p.high + k < q.low) ∧ ∀ r ∈ l, r.low ≤ r.high
theorem Cov.cons {o : Rng} {l : List Rng} {n : Int} : Cov (o :: l) n ↔ (o.low ≤ n ∧ n ≤ o.high) ∨ Cov l n := by simp [Cov]
theorem Gap.cons {k : Int} {o : Rng} {l : List Rng} : Gap k (o :: l) ↔ (∀ q ∈ l, o.high + k < q.low) ∧ o.low ≤ o.high ∧ Gap k l := by
  simp only [Gap, List.pairwise_cons, List.mem_cons, forall_eq_or_imp]
  constructor
  · rintro ⟨⟨h1, h2⟩, h3, h4⟩; exact ⟨h1, h3, h2, h4⟩
  · rintro ⟨h1, h3, h2, h4⟩; exact ⟨⟨h1, h2⟩, h3, h4⟩
theorem pw_mem {k : Int} {l : List Rng} (h : l.Pairwise (fun p q => p.high + k < q.low)) {p q : Rng} (hp : p ∈ l) (hq : q ∈ l) : p = q ∨ p.high + k < q.low ∨ q.high + k < p.low := by
  induction l with
  | nil => cases hp
  | cons a l ih =>
    rw [List.pairwise_cons] at h
    rcases List.mem_cons.1 hp with e1 | hp1
    · rcases List.mem_cons.1 hq with e2 | hq1
      · exact .inl (e1.trans e2.symm)
      · exact .inr (.inl (by rw [e1]; exact h.1 q hq1))
    · rcases List.mem_cons.1 hq with e2 | hq1
      · exact .inr (.inr (by rw [e2]; exact h.1 p hp1))
      · exact ih h.2 hp1 hq1
theorem RsvOk.gap {l : List Rng} (h : RsvOk l) : Gap 0 l := by
  refine ⟨?_, fun r hr => (h.hi r hr).2.2⟩
  have step : ∀ (d i : Nat) (f g : Rng), l[i]? = some f → l[i + d + 1]? = some g → f.high + 0 < g.low := by
    intro d
    induction d with
    | zero =>
      intro i f g h1 h2
      have := (h (i + 1) g h2).2.2.2 f (by omega) (by simpa using h1)
      omega
    | succ d ih =>
      intro i f g h1 h2
      have hlt := (List.getElem?_eq_some_iff.1 h2).1
      obtain ⟨m, hm⟩ : ∃ m, l[i + d + 1]? = some m := ⟨l[i + d + 1]'(by omega), by rw [List.getElem?_eq_getElem]⟩
      have h3 := ih i f m h1 hm
      have h4 := (h (i + (d + 1) + 1) g h2).2.2.2 m (by omega) (by rw [show i + (d + 1) + 1 - 1 = i + d + 1 by omega]; exact hm)
      have h5 := (h (i + d + 1) m hm).2.2.1
      omega
  rw [List.pairwise_iff_getElem]
  intro i j hi hj hij
  exact step (j - i - 1) i _ _ (List.getElem?_eq_getElem hi) (by rw [show i + (j - i - 1) + 1 = j by omega]; exact List.getElem?_eq_getElem hj)
theorem nums_gap : ∀ (l acc : List Rng), Gap 1 acc → Gap 0 l → (∀ p ∈ acc, ∀ r ∈ l, p.high < r.low) → Gap 1 (l.foldl addR acc) ∧ ∀ n, Cov (l.foldl addR acc) n ↔ Cov acc n ∨ Cov l n
  | [], acc, h1, h2, h3 => ⟨h1, fun n => by simp [Cov]⟩
  | r :: l, acc, h1, h2, h3 => by
    rw [Gap.cons] at h2
    obtain ⟨g1, g2, g3⟩ := h2
    have key : Gap 1 (addR acc r) ∧ (∀ p ∈ addR acc r, ∀ q ∈ l, p.high < q.low) ∧ ∀ n, Cov (addR acc r) n ↔ Cov acc n ∨ (r.low ≤ n ∧ n ≤ r.high) := by
      rcases List.eq_nil_or_concat acc with rfl | ⟨ini, p, rfl⟩
      · refine ⟨⟨by simp [addR], fun q hq => by simp [addR] at hq; subst hq; exact g2⟩, fun p hp q hq => ?_, fun n => by simp [addR, Cov]⟩
        simp [addR] at hp; subst hp
        have := g1 q hq; omega
      · rw [List.concat_eq_append] at *
        have hgl : (ini ++ [p]).getLast? = some p := by simp
        have hdl : (ini ++ [p]).dropLast = ini := by simp
        obtain ⟨hpw, hle⟩ := h1
        rw [List.pairwise_append] at hpw
        obtain ⟨q1, _, q3⟩ := hpw
        have hp2 := hle p (by simp)
        have hpr := h3 p (by simp) r (List.mem_cons_self ..)
        unfold addR
        rw [hgl]
        dsimp only
        split
        · rename_i he
          rw [hdl]
          refine ⟨⟨?_, ?_⟩, ?_, ?_⟩
          · rw [List.pairwise_append]
            refine ⟨q1, by simp, fun a ha b hb => ?_⟩
            simp only [List.mem_singleton] at hb; subst hb
            exact q3 a ha p (by simp)
          · intro q hq
            rcases List.mem_append.1 hq with h | h
            · exact hle q (by simp [h])
            · simp only [List.mem_singleton] at h; subst h; dsimp only; omega
          · intro a ha q hq
            have h5 := g1 q hq
            rcases List.mem_append.1 ha with h | h
            · exact h3 a (by simp [h]) q (List.mem_cons_of_mem _ hq)
            · simp only [List.mem_singleton] at h; subst h; dsimp only; omega
          · intro n
            simp only [Cov, List.mem_append, List.mem_singleton]
            constructor
            · rintro ⟨q, h | rfl, h1, h2⟩
              · exact .inl ⟨q, .inl h, h1, h2⟩
              · dsimp only at h1 h2
                by_cases h : n ≤ p.high
                · exact .inl ⟨p, .inr rfl, h1, h⟩
                · exact .inr ⟨by omega, h2⟩
            · rintro (⟨q, h | rfl, h1, h2⟩ | ⟨h1, h2⟩)
              · exact ⟨q, .inl h, h1, h2⟩
              · exact ⟨_, .inr rfl, h1, by dsimp only; omega⟩
              · exact ⟨_, .inr rfl, by dsimp only; omega, h2⟩
        · rename_i he
          refine ⟨⟨?_, ?_⟩, ?_, ?_⟩
          · rw [List.pairwise_append]
            refine ⟨by rw [List.pairwise_append]; exact ⟨q1, by simp, q3⟩, by simp, fun a ha b hb => ?_⟩
            simp only [List.mem_singleton] at hb; subst hb
            rcases List.mem_append.1 ha with h | h
            · have := q3 a h p (by simp)
              omega
            · simp only [List.mem_singleton] at h; subst h; omega
          · intro q hq
            rcases List.mem_append.1 hq with h | h
            · exact hle q h
            · simp only [List.mem_singleton] at h; subst h; exact g2
          · intro a ha q hq
            have h5 := g1 q hq
            rcases List.mem_append.1 ha with h | h
            · exact h3 a h q (List.mem_cons_of_mem _ hq)
            · simp only [List.mem_singleton] at h; subst h; omega
          · intro n
            simp only [Cov, List.mem_append, List.mem_singleton]
            constructor
            · rintro ⟨q, h | rfl, h1, h2⟩
              · exact .inl ⟨q, h, h1, h2⟩
              · exact .inr ⟨h1, h2⟩
            · rintro (⟨q, h, h1, h2⟩ | ⟨h1, h2⟩)
              · exact ⟨q, .inl h, h1, h2⟩
              · exact ⟨_, .inr rfl, h1, h2⟩
    obtain ⟨k1, k2⟩ := nums_gap l (addR acc r) key.1 g3 key.2.1
    refine ⟨k1, fun n => ?_⟩
    rw [List.foldl_cons, k2 n, key.2.2 n, Cov.cons, or_assoc]
theorem numsF_gap {l : List Rng} (h : RsvOk l) : Gap 1 (numsF l) := (nums_gap l [] ⟨.nil, by simp⟩ h.gap (by simp)).1
theorem numsF_cov {l : List Rng} (h : RsvOk l) (n : Int) : Cov (numsF l) n ↔ Cov l n := by
  have := (nums_gap l [] ⟨.nil, by simp⟩ h.gap (by simp)).2 n
  rw [numsF, this]; simp [Cov]
theorem within_iff {L M : List Rng} (hL : ∀ r ∈ L, r.low ≤ r.high) (hM : Gap 1 M) : withinB L M = true ↔ ∀ n, Cov L n → Cov M n := by
  simp only [withinB, List.all_eq_true, List.any_eq_true, inR, decide_eq_true_eq]
  constructor
  · rintro h n ⟨r, hr, h1, h2⟩
    obtain ⟨o, ho, h3, h4⟩ := h r hr
    exact ⟨o, ho, by omega, by omega⟩
  · intro h r hr
    have hle := hL r hr
    obtain ⟨o, ho, h1, h2⟩ := h r.low ⟨r, hr, Int.le_refl _, hle⟩
    refine ⟨o, ho, h1, ?_⟩
    rcases Int.lt_or_le o.high r.high with hlt | hle2
    · exfalso
      obtain ⟨o', ho', h3, h4⟩ := h (o.high + 1) ⟨r, hr, by omega, by omega⟩
      rcases pw_mem hM.1 ho ho' with rfl | h5 | h5
      · omega
      · omega
      · have := hM.2 o ho; omega
    · exact hle2
theorem eq_iff : ∀ {L M : List Rng}, Gap 1 L → Gap 1 M → (∀ n, Cov L n ↔ Cov M n) → L = M
  | [], [], _, _, _ => rfl
  | [], o :: M, _, hM, h => by
    have := (h o.low).2 ⟨o, List.mem_cons_self .., Int.le_refl _, hM.2 o (List.mem_cons_self ..)⟩
    obtain ⟨r, hr, _⟩ := this; cases hr
  | r :: L, [], hL, _, h => by
    have := (h r.low).1 ⟨r, List.mem_cons_self .., Int.le_refl _, hL.2 r (List.mem_cons_self ..)⟩
    obtain ⟨r, hr, _⟩ := this; cases hr
  | r :: L, o :: M, hL, hM, h => by
    rw [Gap.cons] at hL hM
    obtain ⟨a1, a2, a3⟩ := hL
    obtain ⟨b1, b2, b3⟩ := hM
    have covL : ∀ n, Cov L n → r.high + 1 < n := by
      rintro n ⟨q, hq, h1, h2⟩; have := a1 q hq; omega
    have covM : ∀ n, Cov M n → o.high + 1 < n := by
      rintro n ⟨q, hq, h1, h2⟩; have := b1 q hq; omega
    have e1 : r.low = o.low := by
      have h1 := (h r.low).1 (Cov.cons.2 (.inl ⟨Int.le_refl _, a2⟩))
      have h2 := (h o.low).2 (Cov.cons.2 (.inl ⟨Int.le_refl _, b2⟩))
      rw [Cov.cons] at h1 h2
      have h3 : o.low ≤ r.low := by
        rcases h1 with h1 | h1
        · exact h1.1
        · have := covM _ h1; omega
      have h4 : r.low ≤ o.low := by
        rcases h2 with h2 | h2
        · exact h2.1
        · have := covL _ h2; omega
      omega
    have e2 : r.high = o.high := by
      rcases Int.lt_trichotomy r.high o.high with hlt | he | hlt
      · have h1 := (h (r.high + 1)).2 (Cov.cons.2 (.inl ⟨by omega, by omega⟩))
        rw [Cov.cons] at h1
        rcases h1 with h1 | h1
        · omega
        · have := covL _ h1; omega
      · exact he
      · have h1 := (h (o.high + 1)).1 (Cov.cons.2 (.inl ⟨by omega, by omega⟩))
        rw [Cov.cons] at h1
        rcases h1 with h1 | h1
        · omega
        · have := covM _ h1; omega
    have er : r = o := by cases r; cases o; simp at e1 e2; simp [e1, e2]
    subst er
    congr 1
    refine eq_iff a3 b3 fun n => ?_
    have hn := h n
    rw [Cov.cons, Cov.cons] at hn
    constructor
    · intro h1
      rcases hn.1 (.inr h1) with h2 | h2
      · have := covL _ h1; omega
      · exact h2
    · intro h1
      rcases hn.2 (.inr h1) with h2 | h2
      · have := covM _ h1; omega
      · exact h2
theorem step_run : ∀ (b : List Rng) (q : Int), Gap 0 b → q ≤ b.foldl stepR q ∧ (∀ n, q ≤ n → n < b.foldl stepR q → Cov b n) ∧ ¬ Cov b (b.foldl stepR q)
  | [], q, _ => ⟨Int.le_refl _, fun n h1 h2 => by simp only [List.foldl_nil] at h2; omega, by simp [Cov]⟩
  | o :: b, q, h => by
    rw [Gap.cons] at h
    obtain ⟨g1, g2, g3⟩ := h
    have covb : ∀ n, Cov b n → o.high < n := by
      rintro n ⟨z, hz, h1, h2⟩; have := g1 z hz; omega
    rw [List.foldl_cons]
    by_cases hq : o.low ≤ q ∧ q ≤ o.high
    · rw [show stepR q o = o.high + 1 by simp [stepR, hq]]
      obtain ⟨h1, h2, h3⟩ := step_run b (o.high + 1) g3
      refine ⟨by omega, fun n n1 n2 => ?_, fun hc => ?_⟩
      · rw [Cov.cons]
        by_cases hn : n ≤ o.high
        · exact .inl ⟨by omega, hn⟩
        · exact .inr (h2 n (by omega) n2)
      · rw [Cov.cons] at hc
        rcases hc with hc | hc
        · omega
        · exact h3 hc
    · rw [show stepR q o = q by simp only [stepR, if_neg hq]]
      obtain ⟨h1, h2, h3⟩ := step_run b q g3
      refine ⟨h1, fun n n1 n2 => Cov.cons.2 (.inr (h2 n n1 n2)), fun hc => ?_⟩
      rw [Cov.cons] at hc
      rcases hc with hc | hc
      · by_cases hlt : q < b.foldl stepR q
        · have := covb q (h2 q (Int.le_refl _) hlt)
          omega
        · omega
      · exact h3 hc
theorem rw_iff {a b : List Rng} (hb : Gap 0 b) : rwB a b = true ↔ ∀ n, Cov a n → Cov b n := by
  simp only [rwB, List.all_eq_true, decide_eq_true_eq]
  constructor
  · rintro h n ⟨r, hr, h1, h2⟩
    exact (step_run b r.low hb).2.1 n h1 (by have := h r hr; omega)
  · intro h r hr
    obtain ⟨h1, h2, h3⟩ := step_run b r.low hb
    rcases Int.lt_or_le r.high (b.foldl stepR r.low) with hlt | hle
    · exact hlt
    · exact absurd (h _ ⟨r, hr, h1, hle⟩) h3
theorem eqR_iff {l m : List Rng} (hl : RsvOk l) (hm : RsvOk m) : eqR (numsF l) (numsF m) = true ↔ rwB l m = true ∧ rwB m l = true := by
  rw [rw_iff hm.gap, rw_iff hl.gap]
  simp only [eqR, decide_eq_true_eq]
  constructor
  · intro h
    have h2 : ∀ n, Cov l n ↔ Cov m n := fun n => by rw [← numsF_cov hl, ← numsF_cov hm, h]
    exact ⟨fun n => (h2 n).1, fun n => (h2 n).2⟩
  · rintro ⟨h1, h2⟩
    refine eq_iff (numsF_gap hl) (numsF_gap hm) fun n => ?_
    rw [numsF_cov hl, numsF_cov hm]
    exact ⟨h1 n, h2 n⟩
theorem within_rw {l m : List Rng} (hl : RsvOk l) (hm : RsvOk m) : withinB (numsF l) (numsF m) = rwB l m := by
  rw [Bool.eq_iff_iff, within_iff (numsF_gap hl).2 (numsF_gap hm), rw_iff hm.gap]
  exact ⟨fun h n hn => (numsF_cov hm n).1 (h n ((numsF_cov hl n).2 hn)), fun h n hn => (numsF_cov hm n).2 (h n ((numsF_cov hl n).1 hn))⟩
theorem rm3_ms3 {x y : Ty} (hx : RsvOk x.rsv) (hy : RsvOk y.rsv) : rm3 x y = ms3 x y := by
  have h1 := eqR_iff hx hy
  have h2 := within_rw hx hy
  unfold rm3 ms3
  rw [h2]
  cases e1 : rwB x.rsv y.rsv with
  | false =>
    have : ¬ eqR (numsF x.rsv) (numsF y.rsv) = true := fun h => by have := (h1.1 h).1; rw [e1] at this; cases this
    simp [this, clsN]
  | true =>
    cases e2 : rwB y.rsv x.rsv with
    | false =>
      have : ¬ eqR (numsF x.rsv) (numsF y.rsv) = true := fun h => by have := (h1.1 h).2; rw [e2] at this; cases this
      simp [this, clsN]
    | true =>
      have : eqR (numsF x.rsv) (numsF y.rsv) = true := h1.2 ⟨e1, e2⟩
      simp [this]
theorem fm_none {α : Type} {k : α → Int} {n : Int} {g : α → List Chg} : ∀ {l : List α}, n ∉ l.map k → l.flatMap (fun q => if k q = n then g q else []) = []
  | [], _ => rfl
  | a :: l, h => by
    simp only [List.map_cons, List.mem_cons, not_or] at h
    rw [List.flatMap_cons, if_neg (fun e => h.1 e.symm), fm_none h.2]; rfl
theorem fm_find {α : Type} (k : α → Int) (n : Int) (g : α → List Chg) : ∀ l : List α, (l.map k).Nodup → l.flatMap (fun q => if k q = n then g q else []) = (match l.find? (fun q => decide (k q = n)) with | some q => g q | none => [])
  | [], _ => rfl
  | a :: l, h => by
    rw [List.map_cons, List.nodup_cons] at h
    rw [List.flatMap_cons, List.find?_cons]
    by_cases e : k a = n
    · rw [if_pos e, fm_none (by rw [← e]; exact h.1)]
      simp [e]
    · rw [if_neg e, fm_find k n g l h.2]
      simp [e]
theorem any_find {α : Type} (p : α → Bool) (l : List α) : l.any p = (match l.find? p with | some _ => true | none => false) := by
  induction l with
  | nil => rfl
  | cons a l ih =>
    rw [List.any_cons, List.find?_cons]
    cases h : p a with
    | true => rfl
    | false => simpa using ih
theorem re1_en1 {x y : Ty} (hy : (y.syms.map Sym.num).Nodup) (s : Sym) : re1 x y s = en1 x y s := by
  have h := fm_find Sym.num s.num (fun q => if q.name = s.name then [] else [⟨3, 7, x.name, s.num⟩]) y.syms hy
  have h2 := any_find (fun q : Sym => decide (q.num = s.num)) y.syms
  have e : y.syms.flatMap (reQ x s) = y.syms.flatMap (fun q => if q.num = s.num then (if q.name = s.name then [] else [⟨3, 7, x.name, s.num⟩]) else []) := rfl
  unfold re1 en1 syF hasS
  rw [e, h, h2]
  cases y.syms.find? (fun q => decide (q.num = s.num)) with
  | none => simp [reN]
  | some q => simp [reN]
theorem re2_en2 (x y : Ty) (q : Sym) : re2 x q = en2 x y q := by
  have h2 := any_find (fun s : Sym => decide (s.num = q.num)) x.syms
  unfold re2 en2 syF hasS
  rw [h2]
  cases x.syms.find? (fun s => decide (s.num = q.num)) <;> simp
theorem renumC_is {x y : Ty} (hy : (y.syms.map Sym.num).Nodup) : renumC x y = enumsC x y := by
  unfold renumC enumsC
  rw [show re1 x y = en1 x y from funext (re1_en1 hy), show re2 x = en2 x y from funext (re2_en2 x y)]
theorem rising_nodup {l : List FT} (h : Rising l) : (l.map FT.number).Nodup := by
  rw [List.nodup_iff_pairwise_ne, List.pairwise_map, List.pairwise_iff_getElem]
  intro i j hi hj hij e
  have := h i j _ _ hij (List.getElem?_eq_getElem hi) (List.getElem?_eq_getElem hj)
  omega
theorem rm1_ms1 {a b : List Ty} {x y : Ty} (hy : Rising y.fields) (f : FT) : rm1 a b x y f = ms1 a b x y f := by
  have h := fm_find FT.number f.number (fun g => fieldC a b x y f g) y.fields (rising_nodup hy)
  have h2 := any_find (fun q : FT => decide (q.number = f.number)) y.fields
  have e : y.fields.flatMap (rmQ a b x y f) = y.fields.flatMap (fun g => if g.number = f.number then fieldC a b x y f g else []) := rfl
  unfold rm1 ms1 atF hasF
  rw [e, h, h2]
  cases y.fields.find? (fun q => decide (q.number = f.number)) with
  | none => simp [rmN]
  | some q => simp [rmN]
theorem newF_ms2 (x : Ty) (l : List FT) : (newF x l).map (rm2 x) = l.flatMap (ms2 x) := by
  unfold newF
  induction l with
  | nil => rfl
  | cons g l ih =>
    have h2 := any_find (fun q : FT => decide (q.number = g.number)) x.fields
    rw [List.flatMap_cons, ← ih, List.filter_cons]
    unfold ms2 atF hasN
    rw [h2]
    cases x.fields.find? (fun q => decide (q.number = g.number)) with
    | none => simp [rm2]
    | some q => simp
theorem rmessC_is {a b : List Ty} {x y : Ty} (hy : Rising y.fields) (h1 : RsvOk x.rsv) (h2 : RsvOk y.rsv) : rmessC a b x y = messagesC a b x y := by
  unfold rmessC messagesC
  rw [show rm1 a b x y = ms1 a b x y from funext (rm1_ms1 hy), newF_ms2, rm3_ms3 h1 h2]
theorem refC_is {a b : List Ty} (ha : GoodT a) (hb : GoodT b) : refC a b = diffC a b := by
  unfold refC diffC
  congr 1
  have key : ∀ x ∈ a, rd1 a b x = df1 a b x := by
    intro x hx
    unfold rd1 df1
    cases h : fN b x.name with
    | none => rfl
    | some y =>
      have hy := fN_mem h
      dsimp only
      split
      · rename_i he
        split
        · rename_i hx1
          exact renumC_is ((good_at hb hy).1 (he ▸ hx1)).2.2.2.2.2.2.2.2
        · rename_i hx1
          have ex : x.enum = false := by simpa using hx1
          have ey : y.enum = false := he ▸ ex
          exact rmessC_is (msg_rising ((good_at hb hy).2 ey)) ((good_at ha hx).2 ex).2.2.2.2.2.1 ((good_at hb hy).2 ey).2.2.2.2.2.1
      · rfl
  have go : ∀ l : List Ty, (∀ x ∈ l, x ∈ a) → l.flatMap (rd1 a b) = l.flatMap (df1 a b) := by
    intro l
    induction l with
    | nil => intro _; rfl
    | cons x l ih =>
      intro h
      rw [List.flatMap_cons, List.flatMap_cons, key x (h x (List.mem_cons_self ..)), ih fun z hz => h z (List.mem_cons_of_mem _ hz)]
  exact go a fun x hx => hx
theorem fieldB_kl {t : List Ty} {x : Ty} {f : FT} (h : fieldB t x f = true) : f.kind ≤ 17 ∧ 0 ≤ f.label := by
  unfold fieldB at h
  simp only [Bool.and_eq_true] at h
  obtain ⟨h1, h2, _⟩ := h
  simp only [decide_eq_true_eq] at h2
  refine ⟨?_, h2.1⟩
  split at h1
  · rename_i hk; omega
  · simp only [decide_eq_true_eq] at h1; exact h1.2.2
theorem msg_kl {t : List Ty} {x : Ty} (h : MsgOk t x) : ∀ f ∈ x.fields, f.kind ≤ 17 ∧ 0 ≤ f.label := by
  intro f hf
  obtain ⟨i, hi⟩ := List.getElem?_of_mem hf
  exact fieldB_kl (h.2.2.2.2.2.2.1 i f hi).2.2.2.1
theorem ty_lens1 {t : List Ty} {x : Ty} (h : TyOk t x) : x.syms.length ≤ 128 ∧ x.fields.length ≤ 128 := by
  cases he : x.enum with
  | true =>
    have := h.1 he
    exact ⟨this.2.1, by have := this.2.2.2.1; omega⟩
  | false =>
    have := h.2 he
    exact ⟨by have := this.1; omega, this.2.1⟩
theorem good_rp {a b : List Ty} (ha : GoodT a) (hb : GoodT b) : RP a b where
  la := ha.1
  lb := hb.1
  sa := fun x hx => ty_lens1 (good_at ha hx)
  sb := fun x hx => ty_lens1 (good_at hb hx)
  mo := fun x hx y hy ex ey => by
    have h1 := (good_at ha hx).2 ex
    have h2 := (good_at hb hy).2 ey
    exact ⟨h1.2.1, h2.2.1, msg_fok h1, msg_fok h2, msg_kl h1, msg_kl h2, by have := h1.2.2.1; omega, by have := h2.2.2.1; omega, h1.2.2.2.2.2.1.hi, h2.2.2.2.2.2.1.hi⟩
theorem refR_is {a b : List Ty} (ha : GoodT a) (hb : GoodT b) : refR a b = .tup [.slice (outs (diffC a b)), .int .i64 (worstN (diffC a b))] := by
  unfold refR; rw [refC_is ha hb]
def VsaI (l : List Chg) (n : Nat) (st : St) : Prop := ∃ j : Nat, lk st.ρ 0 = some (.iv (.slice (outs l))) ∧ lk st.ρ 1 = some (.iv (.slice (outs l))) ∧ lk st.ρ 5 = some (.iv (.int .i64 (j : Int))) ∧ j ≤ l.length ∧ l.length < j + n
theorem same_fc (l : List Chg) (hl : l.length ≤ 4000000000000) : FC Tryd.prog i_cartouchelaw18_same [.slice (outs l), .slice (outs l)] (· = .bool true) := by
  have hol := outs_len l
  (refine FC.vc (EnvOk.noneS) F_cartouchelaw18_same T_cartouchelaw18_same L_cartouchelaw18_same ?_; unfold A_cartouchelaw18_same; simp only [args0, zl0, zl1, zl2, zl3, zn1])
  (simp -implicitDefEqProofs +contextual (maxSteps := 8000000) only [go_sem, ↓reduceIte, zn0, zn1, zn2, zn3, zn4, reduceCtorEq, zn5, zi0, zi1, zi2, zi3, zi4, zn6, zn7, zn8, zn9, hol])
  refine vc_loop (VsaI l) (l.length + 1) ⟨0, by simp [lk], by simp [lk], by simp [lk], by omega, by omega⟩ ?_
  rintro n st ⟨j, h0, h1, h5, g1, g2⟩
  by_cases hj : j < l.length
  · obtain ⟨c, hc⟩ : ∃ c, l[j]? = some c := ⟨l[j], by simp [hj]⟩
    have hmc : (outs l)[j]? = some (encChg c) := get_map (f := encChg) hc
    simp only [encChg] at hmc
    have hw := wrap1 hj (by omega)
    have hlt : (j : Int) < (l.length : Int) := by omega
    (simp -implicitDefEqProofs +contextual (maxSteps := 8000000) only [go_sem, ↓reduceIte, zn0, zn1, zn2, zn3, zn4, reduceCtorEq, zn5, zi0, zi1, zi2, zi3, zi4, zn6, zn7, zn8, zn9, vcXG_tt, vcXG_ff, vcXG_tf, vcXG_ft, hol, h0, h1, h5, hj, hlt, hmc, hw, forall_eq'])
    exact ⟨n - 1, by omega, j + 1, by simp [lk, h0], by simp [lk, h1], by simp [lk], by omega, by omega⟩
  · have hlt : ¬ (j : Int) < (l.length : Int) := by omega
    (simp -implicitDefEqProofs +contextual (maxSteps := 8000000) only [go_sem, ↓reduceIte, zn0, zn1, zn2, zn3, zn4, reduceCtorEq, zn5, zi0, zi1, zi2, zi3, zi4, zn6, zn7, zn8, zn9, hol, h0, h1, h5, hj, hlt])
def encOuts (l : List Chg) : IV := .slice (outs l)
open Classical in
noncomputable def g_same18 : List IV → Option IV
  | [a, b] => if ∃ l : List Chg, a = encOuts l ∧ b = encOuts l ∧ l.length ≤ 4000000000000 then some (.bool true) else none
  | _ => none
theorem g_same18_is (l : List Chg) (h : l.length ≤ 4000000000000) : g_same18 [.slice (outs l), .slice (outs l)] = some (.bool true) := by
  unfold g_same18; exact if_pos ⟨l, rfl, rfl, h⟩
theorem g_same18_ok : ∀ xs r, g_same18 xs = some r → FC Tryd.prog i_cartouchelaw18_same xs (· = r) := by
  intro xs r h
  unfold g_same18 at h
  split at h
  · rename_i a b
    split at h
    · rename_i hp
      obtain ⟨l, rfl, rfl, hl⟩ := hp
      injection h with h; subst h
      exact same_fc l hl
    · cases h
  · cases h
end Go.Proofs.YtmdkcapbahjipaaDoor.Ag
namespace Go.Proofs.YtmdkcapbahjipaaDoor.Ag
open Classical
noncomputable def g_cartoucheref18_Diff : List IV → Option IV
  | [a_, b_] => (match decTable a_ with
    | some a => (match decTable b_ with
    | some b => if RP a b then some (refR a b) else none
    | none => none)
    | none => none)
  | _ => none
theorem g_cartoucheref18_Diff_is (a : List Ty) (b : List Ty) : g_cartoucheref18_Diff [encTable a, encTable b] = if RP a b then some (refR a b) else none := by
  simp only [g_cartoucheref18_Diff, decTable_enc, decTable_enc]
theorem g_cartoucheref18_Diff_ok : ∀ xs r, g_cartoucheref18_Diff xs = some r → FC Tryd.prog i_cartoucheref18_Diff xs (· = r) := by
  intro xs r h
  unfold g_cartoucheref18_Diff at h
  split at h
  · rename_i a_ b_
    split at h
    · rename_i a ha
      split at h
      · rename_i b hb
        split at h
        · rename_i hpre
          injection h with h; subst h
          have := decTable_enc_inv ha; subst this
          have := decTable_enc_inv hb; subst this
          exact ref_Diff_fc a b hpre
        · cases h
      · cases h
    · cases h
  · cases h

end Go.Proofs.YtmdkcapbahjipaaDoor.Ag
