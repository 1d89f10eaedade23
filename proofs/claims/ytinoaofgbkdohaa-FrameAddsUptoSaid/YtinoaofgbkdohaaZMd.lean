/- frame.Salvage. -/
import Derived.Test.YtinoaofgbkdohaaZMc
import Derived.Test.YtinoaofgbkdohaaZAirL
set_option linter.unusedVariables false
set_option linter.unusedSimpArgs false
set_option maxRecDepth 100000
set_option maxHeartbeats 4000000
open List renaming map_cons → zl0, map_nil → zl1, zipIdx_cons → zl2, zipIdx_nil → zl3
open Nat renaming reduceEqDiff → zn0, reduceAdd → zn1, reduceSub → zn2, reduceLeDiff → zn3, reduceMul → zn4, reduceBEq → zn5, reducePow → zn6, reduceLT → zn7, reduceDiv → zn8, reduceMod → zn9
open Int renaming reduceLT → zi0, reduceLE → zi1, reduceNeg → zi2, reduceEq → zi3, reduceToNat → zi4
namespace Go.Proofs.Ytinoaofgbkdohaa.Ag
attribute [-go_sem] nxt
noncomputable def envSv : Env := { fc := [(i_frame_stands, g_frame_stands), (i_frame_frames, g_frs)], xt := fun N p c Q s => wpc Try.prog (.ext N p c) Q s }
theorem envSv_ok : EnvOk Try.prog envSv := ((EnvOk.none.addF g_frs_ok).addF g_frame_stands_ok).addX
theorem Rd_of {P : Program} {E : Env} (hE : EnvOk P E) {A B : ACode} {p1 p2 : Nat} {ρ : List (Nat × TV)} {x1 x2 : TV} {σ : Slots} {R : Slots → Prop} (h : vc E (.seq A B) (fun e s' => e = .normal ∧ R s'.σ) { ρ := (p2, x2) :: (p1, x1) :: ρ, σ := σ }) : Rd P A B p1 p2 ρ x1 x2 σ R := by
  have h1 := vc_ok hE _ h
  refine wpc_mono A _ _ _ ?_ h1
  intro e s' h2
  cases e with
  | normal => exact h2
  | exit id => cases h2.1
  | ret => cases h2.1
def SvJ (bs : List UInt8) (res : List Pt × Nat) (n a : Nat) (σ : Slots) : Prop := ∃ (lost en v : Nat) (acc : List Pt) (x : TV), lk σ 10 = some (0, .box [x]) ∧ lk σ 11 = some (0, .box [.iv (.int .i64 (lost : Int))]) ∧ lk σ 12 = some (0, .box [.iv (.int .i64 (en : Int))]) ∧
  ((x = .iv .nil ∧ acc = []) ∨ (x = .lst 14 v ∧ lk σ 14 = some (v, .list 46 2 (acc.map encPt)))) ∧ en ≤ a ∧ a ≤ bs.length ∧ lost ≤ en ∧ acc.length ≤ en ∧ svA (stF bs) bs.length n a acc (lost + (a - en)) = res
theorem svJ_skip {bs : List UInt8} {res : List Pt × Nat} {n a : Nat} {σ : Slots} (h : SvJ bs res (n + 1) a σ) (ha : a < bs.length) (hF : stF bs a = none) : SvJ bs res n (a + 1) σ := by
  obtain ⟨lost, en, v, acc, x, h10, h11, h12, hx, g1, g0, g2, g3, g4⟩ := h
  refine ⟨lost, en, v, acc, x, h10, h11, h12, hx, by omega, by omega, by omega, by omega, ?_⟩
  rw [svA, if_pos ha, hF] at g4
  rw [show lost + (a + 1 - en) = lost + (a - en) + 1 by omega]
  exact g4
theorem salvage_fc (bs : List UInt8) (hb : bs.length ≤ 2000000000000) : FC Try.prog i_frame_Salvage [.slice (bs.map encB)] (· = encSv (svA (stF bs) bs.length (bs.length + 1) 0 [] 0)) := by
  have hb' : bs.length ≤ 140737488351232 := by omega
  refine FCvcX envSv_ok F_frame_Salvage (T_frame_Salvage triv) L_frame_Salvage ?_
  unfold A_frame_Salvage; simp only [args0, zl0, zl1, zl2, zl3, zn1]
  (simp -implicitDefEqProofs +contextual (maxSteps := 8000000) only [go_sem, ↓reduceIte, zn0, zn1, zn2, zn3, zn4, reduceCtorEq, zn5, zi0, zi1, zi2, zi3, zi4, zn6, zn7, zn8, zn9, envSv, i_frame_frames, i_frame_stands, g_frs_is, nxt])
  refine wpc_range (gf := 29) (cs := [.iv (.ref (.slice (bs.map encB)))]) (g' := .t 10) (t := .iv (.fn (.func 29) [] [.ref (.slice (bs.map encB))])) (J := fun σ' => ∃ n a, bs.length ≤ a ∧ SvJ bs (svA (stF bs) bs.length (bs.length + 1) 0 [] 0) (n + 1) a σ')
    (by kernel_rfl) (by kernel_rfl) (by simp [ev, lk]) rfl rA_frame_Salvage_ok rB_frame_Salvage_ok (by omega) (by omega) ?_ ?_
  · intro p l hYC
    refine iter_gcx bs (by omega) p l (SvJ bs _) ?_ (fun n a σ h ha hF => svJ_skip h ha hF) _ ⟨0, 0, 0, [], .iv .nil, by simp [lk], by simp [lk], by simp [lk], .inl ⟨rfl, rfl⟩, by omega, by omega, by omega, by simp, rfl⟩
    rintro n a σ c q ⟨lost, en, v, acc, x, h10, h11, h12, hx, g1, g0, g2, g3, g4⟩ ha hF
    refine hYC _ _ _ _ (Rd_of envSv_ok ?_)
    rw [svA, if_pos ha, hF] at g4
    simp only at g4
    have hs := g_frame_stands_is bs (a : Int)
    rw [if_pos ⟨by omega, by omega, by omega⟩] at hs
    simp only [encST, Int.toNat_natCast] at hs
    rw [show stF bs a = (if (stR bs a).2.2 then some (sl bs (stR bs a).1 (stR bs a).2.1, (stR bs a).2.1) else none) from rfl] at hF
    rcases hst : stR bs a with ⟨f, q', ok⟩
    rw [hst] at hF hs
    simp only at hF hs
    cases ok with
    | false => simp at hF
    | true =>
      have hk := stR_ok (a := a) (bs := bs) (by rw [hst])
      rw [hst] at hk
      simp only [if_true, Option.some.injEq, Prod.mk.injEq] at hk hF
      obtain ⟨rfl, rfl⟩ := hF
      have w1 : IntKind.i64.wrap ((a : Int) - (en : Int)) = ((a - en : Nat) : Int) := by rw [wrap_i64 (by omega) (by omega)]; omega
      have w2 : IntKind.i64.wrap ((lost : Int) + ((a - en : Nat) : Int)) = ((lost + (a - en) : Nat) : Int) := by rw [wrap_i64 (by omega) (by omega)]; omega
      unfold rA_frame_Salvage rB_frame_Salvage
      have l3 : (sl bs f q').length ≤ q' - f := by simp [sl]; omega
      rcases hx with ⟨rfl, rfl⟩ | ⟨rfl, h14⟩
      · (simp -implicitDefEqProofs +contextual (maxSteps := 8000000) only [go_sem, ↓reduceIte, zn0, zn1, zn2, zn3, zn4, reduceCtorEq, zn5, zi0, zi1, zi2, zi3, zi4, zn6, zn7, zn8, zn9, envSv, Option.map_none, i_frame_stands, i_frame_frames, hs, h10, h11, h12, w1, w2, lk_upd, Option.some.injEq, forall_eq'])
        refine ⟨by omega, by omega, lost + (a - en), q', _, [⟨a, sl bs f q'⟩], .lst 14 _, (lk_upd _ _ _ _).trans (if_pos rfl), by simp [lk_upd], by simp [lk_upd], .inr ⟨rfl, ?_⟩, by omega, by omega, by omega, ?_, ?_⟩
        · rw [lk_upd, if_neg (by decide), lk_upd, if_pos rfl]
          simp [encPt, encBs]
        · simp only [List.length_append, List.length_cons, List.length_nil] at g3 ⊢; omega
        · rw [Nat.sub_self, Nat.add_zero]; exact g4
      · (simp -implicitDefEqProofs +contextual (maxSteps := 8000000) only [go_sem, ↓reduceIte, zn0, zn1, zn2, zn3, zn4, reduceCtorEq, zn5, zi0, zi1, zi2, zi3, zi4, zn6, zn7, zn8, zn9, envSv, Option.map_none, i_frame_stands, i_frame_frames, hs, h10, h11, h12, h14, w1, w2, lk_upd, Option.some.injEq, forall_eq'])
        refine ⟨by omega, by omega, by omega, lost + (a - en), q', _, acc ++ [⟨a, sl bs f q'⟩], .lst 14 _, (lk_upd _ _ _ _).trans (if_pos rfl), by simp [lk_upd], by simp [lk_upd], .inr ⟨rfl, ?_⟩, by omega, by omega, by omega, ?_, ?_⟩
        · rw [lk_upd, if_neg (by decide), lk_upd, if_pos rfl]
          simp [encPt, encBs]
        · simp only [List.length_append, List.length_cons, List.length_nil] at g3 ⊢; omega
        · rw [Nat.sub_self, Nat.add_zero]; exact g4
  · rintro σ' ⟨n, a, ha, lost, en, v, acc, x, h10, h11, h12, hx, g1, g0, g2, g3, g4⟩
    rw [svA, if_neg (by omega)] at g4
    have w1 : IntKind.i64.wrap ((lost : Int) + (bs.length : Int)) = ((lost + bs.length : Nat) : Int) := by rw [wrap_i64 (by omega) (by omega)]; omega
    have w2 : IntKind.i64.wrap (((lost + bs.length : Nat) : Int) - (en : Int)) = ((lost + (a - en) : Nat) : Int) := by rw [wrap_i64 (by omega) (by omega)]; omega
    have h1 := congrArg Prod.fst g4
    have h2 := congrArg Prod.snd g4
    simp only at h1 h2
    have ho := onePt acc
    have hn : ∀ σ : Slots, nxt σ 15 = nxt σ 15 := fun _ => rfl
    rcases hx with ⟨rfl, rfl⟩ | ⟨rfl, h14⟩
    · rcases hz : lk σ' 15 with _ | ⟨v0, it0⟩
      all_goals
        (simp -implicitDefEqProofs +contextual (maxSteps := 8000000) only [go_sem, ↓reduceIte, zn0, zn1, zn2, zn3, zn4, reduceCtorEq, zn5, zi0, zi1, zi2, zi3, zi4, zn6, zn7, zn8, zn9, envSv, Option.map_none, i_frame_stands, i_frame_frames, h10, h11, h12, w1, w2, hz, nxt, lk_upd, Option.some.injEq, forall_eq'])
        refine ⟨by omega, ?_⟩
        rw [← g4]; rfl
    · rcases hz : lk σ' 15 with _ | ⟨v0, it0⟩
      all_goals
        (simp -implicitDefEqProofs +contextual (maxSteps := 8000000) only [go_sem, ↓reduceIte, zn0, zn1, zn2, zn3, zn4, reduceCtorEq, zn5, zi0, zi1, zi2, zi3, zi4, zn6, zn7, zn8, zn9, envSv, Option.map_none, i_frame_stands, i_frame_frames, h10, h11, h12, h14, w1, w2, hz, ho, nxt, lk_upd, Option.some.injEq, forall_eq'])
        refine ⟨by omega, by omega, ?_⟩
        rw [← g4]; rfl
theorem gvL_put (c : List UInt8) : ∀ (k n i m : Nat), n ≤ k → n * 128 ^ i < 18446744073709551616 → i ≤ 9 → gvL (pvL n ++ c) i m = (m + n * 128 ^ i, i + (pvL n).length, 0) := by
  intro k
  induction k using Nat.strongRecOn with
  | _ k ih =>
    intro n i m hk hn hi
    have h9 : i = 9 → n < 2 := by
      rintro rfl
      rcases Nat.lt_or_ge n 2 with h | h
      · exact h
      · have : 2 * 128 ^ 9 ≤ n * 128 ^ 9 := Nat.mul_le_mul_right _ h
        omega
    by_cases hs : n < 128
    · rw [pvL_small hs]
      have hb : (UInt8.ofNat n).toNat = n := by simp; omega
      simp only [List.cons_append, List.nil_append, gvL, hb, List.length_cons, List.length_nil]
      rw [if_neg (by rintro ⟨h1, h2⟩; have := h9 h1; omega), if_pos hs, Nat.mod_eq_of_lt hs]
    · rw [pvL_big (by omega)]
      have hb : (UInt8.ofNat (n % 128 + 128)).toNat = n % 128 + 128 := by simp; omega
      have hlt : i < 9 := by
        rcases Nat.lt_or_ge i 9 with h | h
        · exact h
        · have : i = 9 := by omega
          have := h9 this; omega
      have hdiv : n / 128 * 128 ^ (i + 1) ≤ n * 128 ^ i := by
        rw [Nat.pow_succ, Nat.mul_comm (128 ^ i) 128, ← Nat.mul_assoc]
        exact Nat.mul_le_mul_right _ (Nat.div_mul_le_self n 128)
      have := ih (n / 128) (by have := Nat.div_lt_self (n := n) (k := 128) (by omega) (by omega); omega) (n / 128) (i + 1) (m + (n % 128 + 128) % 128 * 128 ^ i) (Nat.le_refl _) (by omega) (by omega)
      simp only [List.cons_append, gvL, hb, List.length_cons]
      rw [if_neg (by omega), if_neg (by omega), this]
      have e1 : (n % 128 + 128) % 128 = n % 128 := by omega
      have e2 : n % 128 * 128 ^ i + n / 128 * 128 ^ (i + 1) = n * 128 ^ i := by
        rw [Nat.pow_succ, Nat.mul_comm (128 ^ i) 128, ← Nat.mul_assoc, ← Nat.add_mul]
        congr 1
        omega
      rw [e1]
      congr 1
      · omega
      · congr 1
        omega
theorem gvAt_put (a c : List UInt8) {n : Nat} (hn : n < 18446744073709551616) : gvAt (a ++ (pvL n ++ c)) a.length = (n, a.length + (pvL n).length, 0) := by
  refine gvAt_ok (by simp) ?_
  rw [List.drop_left]
  have := gvL_put c n n 0 0 (Nat.le_refl _) (by simpa using hn) (by omega)
  simpa using this
theorem leN_wdL (n : Nat) : ∀ s, leN (wdL n s) = n % 256 ^ s
  | 0 => by simp [wdL, leN, Nat.mod_one]
  | s + 1 => by
    rw [wdL, leN_append, leN_wdL n s, wdL_len, Nat.pow_succ, Nat.mod_mul]
    have : (UInt8.ofNat (n / 256 ^ s % 256)).toNat = n / 256 ^ s % 256 := by simp
    rw [this, Nat.mul_comm]
theorem rdAt_put (a c : List UInt8) {n : Nat} (s : Nat) (hn : n < 256 ^ s) : rdAt (a ++ (wdL n s ++ c)) a.length s = (n, a.length + s, 0) := by
  unfold rdAt
  rw [if_pos (by simp; omega)]
  simp only [Int.toNat_natCast, List.drop_left]
  rw [if_neg (by simp [wdL_len]), List.take_left' (wdL_len n s)]
  congr 1
  rw [leN_wdL]; exact Nat.mod_eq_of_lt hn
theorem gvAt_inv {x : List UInt8} {j : Nat} {n p : Nat} (h : gvAt x j = (n, p, 0)) : j ≤ x.length ∧ j ≤ p ∧ gvL (x.drop j) 0 0 = (n, p - j, 0) := by
  have h1 := gvAt_next h
  unfold gvAt at h
  rw [if_pos (by omega)] at h
  simp only [Int.toNat_natCast] at h
  refine ⟨by omega, by omega, ?_⟩
  split at h
  · rename_i n' k' hg
    simp at h
    rw [hg, h.1]; congr 2; omega
  · rename_i e hne hg
    simp at h
    obtain ⟨rfl, rfl, rfl⟩ := h
    exact (hne rfl).elim

theorem gvL_canon : ∀ (bs : List UInt8) (i m n k : Nat), gvL bs i m = (n, k, 0) → ∃ x, n = m + x * 128 ^ i ∧ (pvL x).length ≤ k - i ∧ ((pvL x).length = k - i → bs.take (k - i) = pvL x)
  | [], i, m, n, k, h => by simp [gvL] at h
  | b :: r, i, m, n, k, h => by
    have hnx := gvL_next (b :: r) i m n k h
    unfold gvL at h
    split at h
    · simp at h
    · split at h
      · rename_i hb
        simp only [Prod.mk.injEq] at h
        obtain ⟨rfl, rfl, _⟩ := h
        have e1 : b.toNat % 128 = b.toNat := Nat.mod_eq_of_lt hb
        refine ⟨b.toNat, by rw [e1], ?_, fun _ => ?_⟩
        · rw [pvL_small hb]; simp
        · rw [pvL_small hb, show i + 1 - i = 1 by omega]; simp
      · rename_i hb
        obtain ⟨y, h1, h2, h3⟩ := gvL_canon r (i + 1) _ n k h
        have hk := gvL_next r (i + 1) _ n k h
        refine ⟨b.toNat % 128 + y * 128, ?_, ?_, ?_⟩
        · rw [h1, Nat.pow_succ, Nat.add_mul, Nat.mul_comm (128 ^ i) 128, Nat.mul_assoc]; omega
        · by_cases hy : y = 0
          · subst hy
            rw [pvL_small (by omega)]
            simp; omega
          · rw [pvL_big (by omega), show (b.toNat % 128 + y * 128) / 128 = y by omega]
            simp only [List.length_cons]; omega
        · intro he
          by_cases hy : y = 0
          · subst hy
            rw [pvL_small (by omega)] at he
            simp at he; omega
          · rw [pvL_big (by omega), show (b.toNat % 128 + y * 128) / 128 = y by omega] at he ⊢
            simp only [List.length_cons] at he
            have h4 := h3 (by omega)
            rw [show k - i = (k - (i + 1)) + 1 by omega, List.take_succ_cons, h4]
            congr 1
            have := b.toNat_lt
            rw [show (b.toNat % 128 + y * 128) % 128 + 128 = b.toNat by omega]
            simp
theorem sl_len (bs : List UInt8) {i j : Nat} (h : j ≤ bs.length) : (sl bs i j).length = j - i := by simp [sl]; omega
theorem sl_split (bs : List UInt8) {i j k : Nat} (h1 : i ≤ j) (h2 : j ≤ k) : sl bs i k = sl bs i j ++ sl bs j k := by
  unfold sl
  have h3 : k - i = (j - i) + (k - j) := by omega
  rw [h3, List.take_add, List.drop_drop]
  congr 3
  omega
theorem sl_cons {bs : List UInt8} {a k : Nat} {b : UInt8} (h : bs[a]? = some b) (hk : a < k) : sl bs a k = b :: sl bs (a + 1) k := by
  rw [sl_split bs (j := a + 1) (by omega) (by omega)]
  have : sl bs a (a + 1) = [b] := by
    have hlt := (List.getElem?_eq_some_iff.1 h).1
    unfold sl
    rw [show a + 1 - a = 1 by omega, List.drop_eq_getElem_cons hlt]
    have := List.getElem?_eq_getElem hlt
    rw [this] at h; injection h with h
    simp [h]
  rw [this]; rfl
theorem sl_mid (p x q : List UInt8) : sl (p ++ (x ++ q)) p.length (p.length + x.length) = x := by
  unfold sl
  rw [List.drop_left, show p.length + x.length - p.length = x.length by omega, List.take_left]
theorem sl_parts (bs : List UInt8) {i j : Nat} (h : i ≤ j) : bs = bs.take i ++ (sl bs i j ++ bs.drop j) := by
  unfold sl
  have : bs.drop j = (bs.drop i).drop (j - i) := by rw [List.drop_drop]; congr 1; omega
  rw [this, List.take_append_drop, List.take_append_drop]
theorem wdL_leN4 {l : List UInt8} (h : l.length = 4) : wdL (leN l) 4 = l := by
  match l, h with
  | [a, b, c, d], _ =>
    have ha := a.toNat_lt; have hb := b.toNat_lt; have hc := c.toNat_lt; have hd := d.toNat_lt
    have e : leN [a, b, c, d] = a.toNat + 256 * b.toNat + 65536 * c.toNat + 16777216 * d.toNat := by simp only [leN]; omega
    rw [e]
    simp only [wdL, List.nil_append, List.cons_append]
    have f : ∀ {n : Nat} {x : UInt8}, n = x.toNat → UInt8.ofNat n = x := by
      rintro n x rfl; simp
    have p2 : (256 : Nat) ^ 2 = 65536 := by decide
    have p3 : (256 : Nat) ^ 3 = 16777216 := by decide
    rw [p2, p3, Nat.pow_zero, Nat.pow_one]
    rw [f (x := a) (by omega), f (x := b) (by omega), f (x := c) (by omega), f (x := d) (by omega)]
theorem gvAt_canon {bs : List UInt8} {j n p : Nat} (h : gvAt bs (j : Int) = (n, p, 0)) (hl : p - j = (pvL n).length) : sl bs j p = pvL n := by
  obtain ⟨h1, h2, h3⟩ := gvAt_inv h
  obtain ⟨x, e1, e2, e3⟩ := gvL_canon _ _ _ _ _ h3
  simp only [Nat.pow_zero, Nat.mul_one, Nat.zero_add] at e1
  subst e1
  have := e3 (by omega)
  simpa [sl] using this
def Fram (bs : List UInt8) (a : Nat) (c : List UInt8) (q : Nat) : Prop := c.length ≤ 65536 ∧ q = a + (frL c).length ∧ q ≤ bs.length ∧ sl bs a q = frL c
theorem Fram.parts {bs c : List UInt8} {a q : Nat} (h : Fram bs a c q) : ∃ pre post, bs = pre ++ (frL c ++ post) ∧ pre.length = a ∧ q = pre.length + (frL c).length := by
  obtain ⟨h1, h2, h3, h4⟩ := h
  refine ⟨bs.take a, bs.drop q, ?_, by simp; omega, by simp; omega⟩
  rw [← h4]; exact sl_parts bs (by omega)
theorem sumOf_eq (c : List UInt8) : fnv (fnv fnv0 (pvL c.length)) c = sumOf c := (fnv_app _ _ _).symm
theorem st_sound {bs c : List UInt8} {a q : Nat} (h : stF bs a = some (c, q)) : Fram bs a c q := by
  unfold stF at h
  split at h
  · rename_i ho
    injection h with h
    injection h with hc hq
    unfold stR at ho hc hq
    split at ho
    · rename_i b hb
      split at ho
      · rename_i h2
        simp only [hb, h2, if_true] at ho hc hq
        rcases hg : gvAt bs ((a + 1 : Nat) : Int) with ⟨n, nx, e⟩
        rw [hg] at ho hc hq
        simp only [stG] at ho hc hq
        split at ho
        · cases ho
        · rename_i h3
          split at ho
          · cases ho
          · rename_i h4
            rw [if_neg h3, if_neg h4] at hc hq
            simp only [not_or, ne_eq, Decidable.not_not] at h3 h4
            obtain ⟨rfl, h5, h6⟩ := h3
            rcases hr : rdAt bs (nx : Int) 4 with ⟨x, f, e2⟩
            rw [hr] at h4 ho hc hq
            simp only at h4 ho hc hq
            obtain ⟨rfl, h7⟩ := h4
            obtain ⟨g1, g2, g3⟩ := gvAt_next hg
            obtain ⟨_, r1, r2, r3⟩ := rdAt_ok hr
            simp only [Int.toNat_natCast] at r1 r3
            have hb126 : b = 126 := by
              have : b.toNat = (126 : UInt8).toNat := h2
              exact UInt8.toNat_inj.1 this
            have hcl : c.length = n := by rw [← hc, sl_len bs (by omega)]; omega
            have hpv : sl bs (a + 1) nx = pvL n := gvAt_canon hg (by omega)
            have hso : (x : Int) = sumOf c := by
              have := of_decide_eq_true ho
              rw [this, hpv, hc, ← hcl, sumOf_eq]
            have hw : wdL (sumOf c).toNat 4 = sl bs nx f := by
              rw [← hso, Int.toNat_natCast, r3]
              exact wdL_leN4 (by rw [sl_len bs r2]; omega)
            have hfr : sl bs a q = frL c := by
              rw [← hq, sl_cons hb (by omega), sl_split bs (i := a + 1) (j := nx) (by omega) (by omega), sl_split bs (i := nx) (j := f) (by omega) (by omega), hpv, hc, ← hw, hb126]
              simp only [frL, hcl]
            refine ⟨by omega, ?_, by omega, hfr⟩
            rw [← hfr, sl_len bs (by omega)]; omega
      · cases ho
    · cases ho
  · cases h
theorem st_complete {bs c : List UInt8} {a q : Nat} (h : Fram bs a c q) : stF bs a = some (c, q) := by
  have hn := h.1
  obtain ⟨pre, post, rfl, rfl, rfl⟩ := h.parts
  have r0 := sumOf_range c
  have hd : pre ++ (frL c ++ post) = (pre ++ [126]) ++ (pvL c.length ++ (wdL (sumOf c).toNat 4 ++ (c ++ post))) := by simp [frL]
  have hg := gvAt_put (pre ++ [126]) (wdL (sumOf c).toNat 4 ++ (c ++ post)) (n := c.length) (by omega)
  rw [← hd] at hg
  have hd2 : pre ++ (frL c ++ post) = (pre ++ [126] ++ pvL c.length) ++ (wdL (sumOf c).toNat 4 ++ (c ++ post)) := by simp [frL]
  have p4 : (256 : Nat) ^ 4 = 4294967296 := by decide
  have hr := rdAt_put (pre ++ [126] ++ pvL c.length) (c ++ post) (n := (sumOf c).toNat) 4 (by rw [p4]; omega)
  rw [← hd2] at hr
  have hd3 : pre ++ (frL c ++ post) = (pre ++ [126] ++ pvL c.length ++ wdL (sumOf c).toNat 4) ++ (c ++ post) := by simp [frL]
  have hs1 := sl_mid (pre ++ [126]) (pvL c.length) (wdL (sumOf c).toNat 4 ++ (c ++ post))
  rw [← hd] at hs1
  have hs2 := sl_mid (pre ++ [126] ++ pvL c.length ++ wdL (sumOf c).toNat 4) c post
  rw [← hd3] at hs2
  have hwl := wdL_len (sumOf c).toNat 4
  have hfl : (frL c).length = 1 + (pvL c.length).length + 4 + c.length := by simp only [frL, List.length_cons, List.length_append, hwl]; omega
  simp only [List.length_append, List.length_cons, List.length_nil, hwl, Nat.zero_add] at hg hr hs1 hs2
  have hb : (pre ++ (frL c ++ post))[pre.length]? = some 126 := by simp [frL]
  have hlen : (pre ++ (frL c ++ post)).length = pre.length + (frL c).length + post.length := by simp; omega
  have hst : stR (pre ++ (frL c ++ post)) pre.length = (pre.length + 1 + (pvL c.length).length + 4, pre.length + 1 + (pvL c.length).length + 4 + c.length, true) := by
    unfold stR
    rw [hb]
    simp only [show (126 : UInt8).toNat = 126 from rfl, if_true, hg, hr, stG, ne_eq, not_true_eq_false, false_or, hs1, hs2, sumOf_eq]
    rw [if_neg (by omega), if_neg (by omega), show ((sumOf c).toNat : Int) = sumOf c by omega]
    simp
  unfold stF
  rw [hst]
  simp only [if_true, hs2]
  congr 2
  omega
theorem at_sound {bs c : List UInt8} {a q : Nat} (h : atF bs a = some (c, q)) : Fram bs a c q := by
  unfold atF at h
  split at h
  · rename_i ho
    injection h with h
    injection h with hc hq
    unfold atR at ho hc hq
    split at ho
    · rename_i b hb
      split at ho
      · rename_i h2
        simp only [hb, h2, if_true] at ho hc hq
        rcases hg : gvAt bs ((a + 1 : Nat) : Int) with ⟨n, nx, e⟩
        rw [hg] at ho hc hq
        simp only [atG] at ho hc hq
        split at ho
        · cases ho
        · rename_i h3
          split at ho
          · rename_i h4
            rw [if_neg h3, if_pos h4] at hc hq
            simp only [not_or, ne_eq, Decidable.not_not] at h3
            obtain ⟨rfl, h5, h6⟩ := h3
            obtain ⟨g1, g2, g3⟩ := gvAt_next hg
            simp only at hc hq
            have hcl : c.length = n := by rw [← hc, sl_len bs (by omega)]; omega
            have hfr : sl bs a q = frL c := by rw [← hq, ← hc, h4]
            refine ⟨by omega, ?_, by omega, hfr⟩
            rw [← hfr, sl_len bs (by omega)]; omega
          · cases ho
      · cases ho
    · cases ho
  · cases h
theorem at_complete {bs c : List UInt8} {a q : Nat} (h : Fram bs a c q) : atF bs a = some (c, q) := by
  have hn := h.1
  obtain ⟨pre, post, rfl, rfl, rfl⟩ := h.parts
  have hd : pre ++ (frL c ++ post) = (pre ++ [126]) ++ (pvL c.length ++ (wdL (sumOf c).toNat 4 ++ (c ++ post))) := by simp [frL]
  have hg := gvAt_put (pre ++ [126]) (wdL (sumOf c).toNat 4 ++ (c ++ post)) (n := c.length) (by omega)
  rw [← hd] at hg
  have hd3 : pre ++ (frL c ++ post) = (pre ++ [126] ++ pvL c.length ++ wdL (sumOf c).toNat 4) ++ (c ++ post) := by simp [frL]
  have hs2 := sl_mid (pre ++ [126] ++ pvL c.length ++ wdL (sumOf c).toNat 4) c post
  rw [← hd3] at hs2
  have hwl := wdL_len (sumOf c).toNat 4
  have hfl : (frL c).length = 1 + (pvL c.length).length + 4 + c.length := by simp only [frL, List.length_cons, List.length_append, hwl]; omega
  simp only [List.length_append, List.length_cons, List.length_nil, hwl, Nat.zero_add] at hg hs2
  have hb : (pre ++ (frL c ++ post))[pre.length]? = some 126 := by simp [frL]
  have hlen : (pre ++ (frL c ++ post)).length = pre.length + (frL c).length + post.length := by simp; omega
  have hs3 := sl_mid pre (frL c) post
  have hq : pre.length + 1 + (pvL c.length).length + 4 + c.length = pre.length + (frL c).length := by omega
  have hst : atR (pre ++ (frL c ++ post)) pre.length = (c, pre.length + (frL c).length, true) := by
    unfold atR
    rw [hb]
    rw [hq] at hs2
    simp only [show (126 : UInt8).toNat = 126 from rfl, if_true, hg, atG, ne_eq, not_true_eq_false, false_or, hq, hs2, hs3]
    rw [if_neg (by omega)]
  unfold atF
  rw [hst]
  simp
theorem st_at (bs : List UInt8) (a : Nat) : stF bs a = atF bs a := by
  cases h : stF bs a with
  | some r => obtain ⟨c, q⟩ := r; exact (at_complete (st_sound h)).symm
  | none =>
    cases h2 : atF bs a with
    | none => rfl
    | some r => obtain ⟨c, q⟩ := r; rw [st_complete (at_sound h2)] at h; cases h
def unB1 : IV → Option (List UInt8)
  | .slice x => unBs x
  | _ => none
theorem unB1_enc (b : List UInt8) : unB1 (encBs b) = some b := unBs_enc b
theorem unB1_inv {x : IV} {b : List UInt8} (h : unB1 x = some b) : x = encBs b := by
  unfold unB1 at h
  split at h
  · exact congrArg IV.slice (unBs_enc_inv h)
  · cases h
def unL : List IV → Option Bss
  | [] => some []
  | x :: l => match unB1 x, unL l with
    | some e, some es => some (e :: es)
    | _, _ => none
def decL : IV → Option Bss
  | .slice l => unL l
  | _ => none
theorem unL_enc : ∀ (l : Bss), unL (l.map encBs) = some l
  | [] => rfl
  | e :: l => by simp [unL, unB1_enc, unL_enc l]
theorem unL_inv : ∀ {x : List IV} {l : Bss}, unL x = some l → x = l.map encBs
  | [], l, h => by simp [unL] at h; subst h; rfl
  | y :: x, l, h => by
    simp only [unL] at h
    split at h
    · rename_i e es h1 h2
      injection h with h; subst h
      simp [unB1_inv h1, unL_inv h2]
    · cases h
theorem decL_enc (l : Bss) : decL (encL l) = some l := unL_enc l
theorem decL_enc_inv {x : IV} {l : Bss} (h : decL x = some l) : x = encL l := by
  unfold decL at h
  split at h
  · exact congrArg IV.slice (unL_inv h)
  · cases h
def unP : IV → Option Pt
  | .agg [.int .i64 n, b] => if 0 ≤ n then (match unB1 b with
      | some b => some ⟨n.toNat, b⟩
      | none => none) else none
  | _ => none
theorem unP_enc (p : Pt) : unP (encPt p) = some p := by
  simp only [unP, encPt, unB1_enc, Int.toNat_natCast]
  rw [if_pos (by omega)]
theorem unP_inv {x : IV} {p : Pt} (h : unP x = some p) : x = encPt p := by
  unfold unP at h
  split at h
  · split at h
    · split at h
      · rename_i b hb
        injection h with h; subst h
        have := unB1_inv hb
        subst this
        simp only [encPt]
        congr 3
        omega
      · cases h
    · cases h
  · cases h
def unPs : List IV → Option (List Pt)
  | [] => some []
  | x :: l => match unP x, unPs l with
    | some e, some es => some (e :: es)
    | _, _ => none
def decPts : IV → Option (List Pt)
  | .slice l => unPs l
  | _ => none
theorem unPs_enc : ∀ (l : List Pt), unPs (l.map encPt) = some l
  | [] => rfl
  | e :: l => by simp [unPs, unP_enc, unPs_enc l]
theorem unPs_inv : ∀ {x : List IV} {l : List Pt}, unPs x = some l → x = l.map encPt
  | [], l, h => by simp [unPs] at h; subst h; rfl
  | y :: x, l, h => by
    simp only [unPs] at h
    split at h
    · rename_i e es h1 h2
      injection h with h; subst h
      simp [unP_inv h1, unPs_inv h2]
    · cases h
theorem decPts_enc (l : List Pt) : decPts (encPts l) = some l := unPs_enc l
theorem decPts_enc_inv {x : IV} {l : List Pt} (h : decPts x = some l) : x = encPts l := by
  unfold decPts at h
  split at h
  · exact congrArg IV.slice (unPs_inv h)
  · cases h

theorem wrA_some : ∀ (l : Bss) (acc b : List UInt8), wrA l acc = some b → (∀ c ∈ l, c.length ≤ 65536) ∧ b = acc ++ l.flatMap frL
  | [], acc, b, h => by simp [wrA] at h; subst h; exact ⟨by simp, by simp⟩
  | c :: l, acc, b, h => by
    rw [wrA] at h
    split at h
    · cases h
    · rename_i hc
      obtain ⟨h1, h2⟩ := wrA_some l _ b h
      refine ⟨fun x hx => ?_, by rw [h2]; simp⟩
      simp only [List.mem_cons] at hx
      rcases hx with rfl | hx
      · omega
      · exact h1 x hx
theorem wrA_one (c : List UInt8) (hc : c.length ≤ 65536) : wrA [c] [] = some (frL c) := by
  rw [wrA, if_neg (by omega), wrA]; simp
theorem fram_mid (pre post : List UInt8) {c : List UInt8} (hc : c.length ≤ 65536) : Fram (pre ++ (frL c ++ post)) pre.length c (pre.length + (frL c).length) :=
  ⟨hc, rfl, by simp, sl_mid pre (frL c) post⟩
theorem rdA_put (bs : List UInt8) : ∀ (l : Bss) (pre : List UInt8) (acc : Bss) (n : Nat), (∀ c ∈ l, c.length ≤ 65536) → bs = pre ++ l.flatMap frL → l.length < n → rdA (stF bs) bs.length n pre.length acc = some (acc ++ l)
  | [], pre, acc, n, hl, hb, hn => by
    obtain ⟨n, rfl⟩ : ∃ m, n = m + 1 := ⟨n - 1, by simp at hn; omega⟩
    rw [rdA, if_neg (by rw [hb]; simp)]; simp
  | c :: l, pre, acc, n, hl, hb, hn => by
    obtain ⟨n, rfl⟩ : ∃ m, n = m + 1 := ⟨n - 1, by simp at hn; omega⟩
    have hb2 : bs = pre ++ (frL c ++ l.flatMap frL) := by rw [hb]; simp
    have hf := st_complete (fram_mid pre (l.flatMap frL) (hl c (by simp)))
    rw [← hb2] at hf
    have hlen : bs.length = pre.length + (frL c).length + (l.flatMap frL).length := by rw [hb2]; simp; omega
    have hpos : 0 < (frL c).length := by simp [frL]
    rw [rdA, if_pos (by omega), hf]
    have := rdA_put bs l (pre ++ frL c) (acc ++ [c]) n (fun x hx => hl x (by simp [hx])) (by rw [hb2]; simp) (by simp at hn; omega)
    simp only [List.length_append] at this
    simp only [this, List.append_assoc, List.cons_append, List.nil_append]
theorem frL_pos (c : List UInt8) : 0 < (frL c).length := by simp [frL]
theorem frs_len : ∀ l : Bss, l.length ≤ (l.flatMap frL).length
  | [] => by simp
  | c :: l => by have := frs_len l; have := frL_pos c; simp only [List.flatMap_cons, List.length_append, List.length_cons]; omega
theorem rd_wr {l : Bss} {b : List UInt8} (h : wrA l [] = some b) : rdA (stF b) b.length (b.length + 1) 0 [] = some l := by
  obtain ⟨h1, h2⟩ := wrA_some l [] b h
  rw [List.nil_append] at h2
  have := frs_len l
  have h3 := rdA_put b l [] [] (b.length + 1) h1 (by simpa using h2) (by rw [h2]; omega)
  simpa using h3
def qst (quiet : List UInt8) (l : Bss) : List UInt8 := l.flatMap (fun c => quiet ++ frL c) ++ quiet
theorem stF_quiet {bs : List UInt8} {a : Nat} {b : UInt8} (h : bs[a]? = some b) (hb : b.toNat ≠ 126) : stF bs a = none := by
  unfold stF stR
  rw [h]
  simp [hb]
theorem sv_skip (bs : List UInt8) : ∀ (quiet pre rest : List UInt8) (acc : List Pt) (lost n : Nat), (∀ x ∈ quiet, x.toNat ≠ 126) → bs = pre ++ (quiet ++ rest) →
    svA (stF bs) bs.length (n + quiet.length) pre.length acc lost = svA (stF bs) bs.length n (pre.length + quiet.length) acc (lost + quiet.length)
  | [], pre, rest, acc, lost, n, hq, hb => by simp
  | x :: quiet, pre, rest, acc, lost, n, hq, hb => by
    have hx : bs[pre.length]? = some x := by rw [hb]; simp
    have hlt : pre.length < bs.length := (List.getElem?_eq_some_iff.1 hx).1
    have ih := sv_skip bs quiet (pre ++ [x]) rest acc (lost + 1) n (fun y hy => hq y (by simp [hy])) (by rw [hb]; simp)
    rw [List.length_cons, show n + (quiet.length + 1) = (n + quiet.length) + 1 by omega, svA, if_pos hlt, stF_quiet hx (hq x (by simp))]
    simp only [List.length_append, List.length_cons, List.length_nil] at ih
    simp only
    rw [show pre.length + 1 = pre.length + (0 + 1) by omega, ih]
    congr 1 <;> omega
theorem sv_put (bs quiet : List UInt8) (hq : ∀ x ∈ quiet, x.toNat ≠ 126) : ∀ (l : Bss) (pre : List UInt8) (acc : List Pt) (lost n : Nat), (∀ c ∈ l, c.length ≤ 65536) → bs = pre ++ qst quiet l →
    ∃ ps : List Pt, svA (stF bs) bs.length (n + (qst quiet l).length + 1) pre.length acc lost = (acc ++ ps, lost + (l.length + 1) * quiet.length) ∧ ps.map Pt.b = l
  | [], pre, acc, lost, n, hl, hb => by
    refine ⟨[], ?_, rfl⟩
    have hb2 : bs = pre ++ (quiet ++ []) := by rw [hb]; simp [qst]
    have h1 : n + (qst quiet []).length + 1 = (n + 1) + quiet.length := by simp [qst]; omega
    have hlen : bs.length = pre.length + quiet.length := by rw [hb2]; simp
    rw [h1, sv_skip bs quiet pre [] acc lost (n + 1) hq hb2, svA, if_neg (by omega)]
    simp
  | c :: l, pre, acc, lost, n, hl, hb => by
    have hqe : qst quiet (c :: l) = quiet ++ (frL c ++ qst quiet l) := by simp [qst]
    have hb2 : bs = pre ++ (quiet ++ (frL c ++ qst quiet l)) := by rw [hb, hqe]
    have hb3 : bs = (pre ++ quiet) ++ (frL c ++ qst quiet l) := by rw [hb2]; simp
    have hf := st_complete (fram_mid (pre ++ quiet) (qst quiet l) (hl c (by simp)))
    rw [← hb3] at hf
    have hpos := frL_pos c
    have hlen : bs.length = pre.length + quiet.length + (frL c).length + (qst quiet l).length := by rw [hb2]; simp; omega
    have h1 : n + (qst quiet (c :: l)).length + 1 = (n + ((frL c).length - 1) + (qst quiet l).length + 1 + 1) + quiet.length := by rw [hqe]; simp; omega
    obtain ⟨ps, h2, h3⟩ := sv_put bs quiet hq l (pre ++ quiet ++ frL c) (acc ++ [⟨pre.length + quiet.length, c⟩]) (lost + quiet.length) (n + ((frL c).length - 1)) (fun x hx => hl x (by simp [hx])) (by rw [hb3]; simp)
    refine ⟨⟨pre.length + quiet.length, c⟩ :: ps, ?_, by simp [h3]⟩
    rw [h1, sv_skip bs quiet pre _ acc lost _ hq hb2, svA, if_pos (by omega)]
    simp only [List.length_append] at hf h2
    rw [hf]
    simp only
    rw [h2]
    congr 1
    · simp
    · simp only [List.length_cons, Nat.add_mul]; omega
theorem sv_quiet (quiet : List UInt8) (hq : ∀ x ∈ quiet, x.toNat ≠ 126) (l : Bss) (hl : ∀ c ∈ l, c.length ≤ 65536) :
    ∃ ps : List Pt, svA (stF (qst quiet l)) (qst quiet l).length ((qst quiet l).length + 1) 0 [] 0 = (ps, (l.length + 1) * quiet.length) ∧ ps.map Pt.b = l := by
  obtain ⟨ps, h1, h2⟩ := sv_put (qst quiet l) quiet hq l [] [] 0 0 hl (by simp)
  exact ⟨ps, by simpa using h1, h2⟩
def Adds (bs : List UInt8) : Nat → List Pt → Nat → Prop
  | a, [], k => a + k = bs.length
  | a, p :: ps, k => ∃ k1 k2 q, k = k1 + k2 ∧ p.at_ = a + k1 ∧ Fram bs p.at_ p.b q ∧ Adds bs q ps k2
theorem Adds.more {bs : List UInt8} : ∀ {ps : List Pt} {a k : Nat}, Adds bs (a + 1) ps k → Adds bs a ps (k + 1)
  | [], a, k, h => by simp only [Adds] at h ⊢; omega
  | p :: ps, a, k, h => by
    obtain ⟨k1, k2, q, h1, h2, h3, h4⟩ := h
    exact ⟨k1 + 1, k2, q, by omega, by omega, h3, h4⟩
theorem sv_adds (bs : List UInt8) : ∀ (n a : Nat) (acc : List Pt) (lost : Nat), a ≤ bs.length → bs.length < a + n → ∃ (ps : List Pt) (k : Nat), svA (stF bs) bs.length n a acc lost = (acc ++ ps, lost + k) ∧ Adds bs a ps k
  | 0, a, acc, lost, h1, h2 => by omega
  | n + 1, a, acc, lost, h1, h2 => by
    rw [svA]
    by_cases ha : a < bs.length
    · rw [if_pos ha]
      cases hf : stF bs a with
      | some r =>
        obtain ⟨c, q⟩ := r
        have hF := st_sound hf
        have := frL_pos c
        obtain ⟨ps, k, g1, g2⟩ := sv_adds bs n q (acc ++ [⟨a, c⟩]) lost hF.2.2.1 (by have := hF.2.1; omega)
        exact ⟨⟨a, c⟩ :: ps, k, by simp only; rw [g1]; simp, 0, k, q, by omega, by simp, hF, g2⟩
      | none =>
        obtain ⟨ps, k, g1, g2⟩ := sv_adds bs n (a + 1) acc (lost + 1) (by omega) (by omega)
        exact ⟨ps, k + 1, by simp only; rw [g1]; congr 1; omega, g2.more⟩
    · rw [if_neg ha]
      exact ⟨[], 0, by simp, by simp only [Adds]; omega⟩
open Classical
noncomputable def g_frame_Write : List IV → Option IV
  | [l_] => (match decL l_ with
    | some l => if szW l ≤ 100000000000000 then some (encWr (wrA l [])) else none
    | none => none)
  | _ => none
theorem g_frame_Write_is (l : Bss) : g_frame_Write [encL l] = if szW l ≤ 100000000000000 then some (encWr (wrA l [])) else none := by
  simp only [g_frame_Write, decL_enc]
theorem g_frame_Write_ok : ∀ xs r, g_frame_Write xs = some r → FC Try.prog i_frame_Write xs (· = r) := by
  intro xs r h
  unfold g_frame_Write at h
  split at h
  · rename_i l_
    split at h
    · rename_i l hl
      split at h
      · rename_i hpre
        injection h with h; subst h
        have := decL_enc_inv hl; subst this
        exact write_fc l hpre
      · cases h
    · cases h
  · cases h

noncomputable def g_cartoucheref23_Write : List IV → Option IV
  | [l_] => (match decL l_ with
    | some l => if szW l ≤ 100000000000000 then some (encWR (wrA l [])) else none
    | none => none)
  | _ => none
theorem g_cartoucheref23_Write_is (l : Bss) : g_cartoucheref23_Write [encL l] = if szW l ≤ 100000000000000 then some (encWR (wrA l [])) else none := by
  simp only [g_cartoucheref23_Write, decL_enc]
theorem g_cartoucheref23_Write_ok : ∀ xs r, g_cartoucheref23_Write xs = some r → FC Try.prog i_cartoucheref23_Write xs (· = r) := by
  intro xs r h
  unfold g_cartoucheref23_Write at h
  split at h
  · rename_i l_
    split at h
    · rename_i l hl
      split at h
      · rename_i hpre
        injection h with h; subst h
        have := decL_enc_inv hl; subst this
        exact ref_write_fc l hpre
      · cases h
    · cases h
  · cases h

noncomputable def g_frame_Read : List IV → Option IV
  | [.slice b_] => (match unBs b_ with
    | some b => if b.length ≤ 1000000000 then some (encRd (rdA (stF b) b.length (b.length + 1) 0 [])) else none
    | none => none)
  | _ => none
theorem g_frame_Read_is (b : List UInt8) : g_frame_Read [.slice (b.map encB)] = if b.length ≤ 1000000000 then some (encRd (rdA (stF b) b.length (b.length + 1) 0 [])) else none := by
  simp only [g_frame_Read, unBs_enc]
theorem g_frame_Read_ok : ∀ xs r, g_frame_Read xs = some r → FC Try.prog i_frame_Read xs (· = r) := by
  intro xs r h
  unfold g_frame_Read at h
  split at h
  · rename_i b_
    split at h
    · rename_i b hb
      split at h
      · rename_i hpre
        injection h with h; subst h
        have := unBs_enc_inv hb; subst this
        exact read_f_fc b hpre
      · cases h
    · cases h
  · cases h

noncomputable def g_cartoucheref23_Read : List IV → Option IV
  | [.slice b_] => (match unBs b_ with
    | some b => if b.length ≤ 1000000000 then some (encRR (rdA (atF b) b.length (b.length + 1) 0 [])) else none
    | none => none)
  | _ => none
theorem g_cartoucheref23_Read_is (b : List UInt8) : g_cartoucheref23_Read [.slice (b.map encB)] = if b.length ≤ 1000000000 then some (encRR (rdA (atF b) b.length (b.length + 1) 0 [])) else none := by
  simp only [g_cartoucheref23_Read, unBs_enc]
theorem g_cartoucheref23_Read_ok : ∀ xs r, g_cartoucheref23_Read xs = some r → FC Try.prog i_cartoucheref23_Read xs (· = r) := by
  intro xs r h
  unfold g_cartoucheref23_Read at h
  split at h
  · rename_i b_
    split at h
    · rename_i b hb
      split at h
      · rename_i hpre
        injection h with h; subst h
        have := unBs_enc_inv hb; subst this
        exact ref_read_fc b hpre
      · cases h
    · cases h
  · cases h

noncomputable def g_frame_Salvage : List IV → Option IV
  | [.slice b_] => (match unBs b_ with
    | some b => if b.length ≤ 2000000000000 then some (encSv (svA (stF b) b.length (b.length + 1) 0 [] 0)) else none
    | none => none)
  | _ => none
theorem g_frame_Salvage_is (b : List UInt8) : g_frame_Salvage [.slice (b.map encB)] = if b.length ≤ 2000000000000 then some (encSv (svA (stF b) b.length (b.length + 1) 0 [] 0)) else none := by
  simp only [g_frame_Salvage, unBs_enc]
theorem g_frame_Salvage_ok : ∀ xs r, g_frame_Salvage xs = some r → FC Try.prog i_frame_Salvage xs (· = r) := by
  intro xs r h
  unfold g_frame_Salvage at h
  split at h
  · rename_i b_
    split at h
    · rename_i b hb
      split at h
      · rename_i hpre
        injection h with h; subst h
        have := unBs_enc_inv hb; subst this
        exact salvage_fc b hpre
      · cases h
    · cases h
  · cases h

noncomputable def g_cartoucheref23_Salvage : List IV → Option IV
  | [.slice b_] => (match unBs b_ with
    | some b => if b.length ≤ 1000000000 then some (encSv (svA (atF b) b.length (b.length + 1) 0 [] 0)) else none
    | none => none)
  | _ => none
theorem g_cartoucheref23_Salvage_is (b : List UInt8) : g_cartoucheref23_Salvage [.slice (b.map encB)] = if b.length ≤ 1000000000 then some (encSv (svA (atF b) b.length (b.length + 1) 0 [] 0)) else none := by
  simp only [g_cartoucheref23_Salvage, unBs_enc]
theorem g_cartoucheref23_Salvage_ok : ∀ xs r, g_cartoucheref23_Salvage xs = some r → FC Try.prog i_cartoucheref23_Salvage xs (· = r) := by
  intro xs r h
  unfold g_cartoucheref23_Salvage at h
  split at h
  · rename_i b_
    split at h
    · rename_i b hb
      split at h
      · rename_i hpre
        injection h with h; subst h
        have := unBs_enc_inv hb; subst this
        exact ref_salvage_fc b hpre
      · cases h
    · cases h
  · cases h

noncomputable def g_cartouchelaw23_lists : List IV → Option IV
  | [x_, y_] => (match decL x_ with
    | some x => (match decL y_ with
    | some y => if x.length ≤ 140737488351232 then some (.bool (decide (x = y))) else none
    | none => none)
    | none => none)
  | _ => none
theorem g_cartouchelaw23_lists_is (x : Bss) (y : Bss) : g_cartouchelaw23_lists [encL x, encL y] = if x.length ≤ 140737488351232 then some (.bool (decide (x = y))) else none := by
  simp only [g_cartouchelaw23_lists, decL_enc, decL_enc]
theorem g_cartouchelaw23_lists_ok : ∀ xs r, g_cartouchelaw23_lists xs = some r → FC Try.prog i_cartouchelaw23_lists xs (· = r) := by
  intro xs r h
  unfold g_cartouchelaw23_lists at h
  split at h
  · rename_i x_ y_
    split at h
    · rename_i x hx
      split at h
      · rename_i y hy
        split at h
        · rename_i hpre
          injection h with h; subst h
          have := decL_enc_inv hx; subst this
          have := decL_enc_inv hy; subst this
          exact lists_fc x y hpre
        · cases h
      · cases h
    · cases h
  · cases h

noncomputable def g_cartouchelaw23_parts : List IV → Option IV
  | [x_, y_] => (match decPts x_ with
    | some x => (match decPts y_ with
    | some y => if x.length ≤ 140737488351232 then some (.bool (decide (x = y))) else none
    | none => none)
    | none => none)
  | _ => none
theorem g_cartouchelaw23_parts_is (x : (List Pt)) (y : (List Pt)) : g_cartouchelaw23_parts [encPts x, encPts y] = if x.length ≤ 140737488351232 then some (.bool (decide (x = y))) else none := by
  simp only [g_cartouchelaw23_parts, decPts_enc, decPts_enc]
theorem g_cartouchelaw23_parts_ok : ∀ xs r, g_cartouchelaw23_parts xs = some r → FC Try.prog i_cartouchelaw23_parts xs (· = r) := by
  intro xs r h
  unfold g_cartouchelaw23_parts at h
  split at h
  · rename_i x_ y_
    split at h
    · rename_i x hx
      split at h
      · rename_i y hy
        split at h
        · rename_i hpre
          injection h with h; subst h
          have := decPts_enc_inv hx; subst this
          have := decPts_enc_inv hy; subst this
          exact parts_fc x y hpre
        · cases h
      · cases h
    · cases h
  · cases h

end Go.Proofs.Ytinoaofgbkdohaa.Ag
namespace Go.Proofs.Ytinoaofgbkdohaa.Ag
noncomputable def envAw : Env := { fc := [(i_frame_Write, g_frame_Write), (i_frame_Read, g_frame_Read), (i_frame_Sum, g_frame_Sum), (i_cartoucheref23_Frame, g_cartoucheref23_Frame), (i_cartouchelaw23_lists, g_cartouchelaw23_lists)] }
theorem envAw_ok : EnvOk Try.prog envAw := ((((EnvOk.none.addF g_cartouchelaw23_lists_ok).addF g_cartoucheref23_Frame_ok).addF g_frame_Sum_ok).addF g_frame_Read_ok).addF g_frame_Write_ok
theorem fnv97 : fnv fnv0 [97] = 3826002220 := by decide +kernel
theorem awake_fc : FC Try.prog i_cartouchelaw23_awake [] (· = .bool true) := by
  have hw := g_frame_Write_is [[97]]
  rw [if_pos (by decide), wrA_one [97] (by decide)] at hw
  simp only [encWr, encL, encBs, List.map_cons, List.map_nil, show encB 97 = .int .u8 97 from rfl] at hw
  have hfl := frL_len [97] (by decide)
  have hr := g_frame_Read_is (frL [97])
  simp only [List.length_cons, List.length_nil] at hfl
  rw [if_pos (by omega), rd_wr (wrA_one [97] (by decide))] at hr
  simp only [encRd, encL, encBs, List.map_cons, List.map_nil, show encB 97 = .int .u8 97 from rfl] at hr
  have hs := g_frame_Sum_is [97]
  rw [if_pos (by decide), fnv97] at hs
  have hf := g_cartoucheref23_Frame_is [97]
  rw [if_pos (by decide)] at hf
  have hl := g_cartouchelaw23_lists_is [[97]] [[97]]
  rw [if_pos (by decide), decide_eq_true rfl] at hl
  simp only [encL, encBs, List.map_cons, List.map_nil, show encB 97 = .int .u8 97 from rfl] at hl hs hf
  (refine FC.vc (envAw_ok) F_cartouchelaw23_awake T_cartouchelaw23_awake L_cartouchelaw23_awake ?_; unfold A_cartouchelaw23_awake; simp only [args0, zl0, zl1, zl2, zl3, zn1])
  (simp -implicitDefEqProofs +contextual (maxSteps := 8000000) only [go_sem, ↓reduceIte, zn0, zn1, zn2, zn3, zn4, reduceCtorEq, zn5, zi0, zi1, zi2, zi3, zi4, zn6, zn7, zn8, zn9, envAw, i_frame_Write, i_frame_Read, i_frame_Sum, i_cartoucheref23_Frame, i_cartouchelaw23_lists, hw, hr, hs, hf, hl])
open Classical
noncomputable def g_cartouchelaw23_awake : List IV → Option IV
  | [] => some (.bool true)
  | _ => none
theorem g_cartouchelaw23_awake_is  : g_cartouchelaw23_awake [] = some (.bool true) := by
  simp only [g_cartouchelaw23_awake]
theorem g_cartouchelaw23_awake_ok : ∀ xs r, g_cartouchelaw23_awake xs = some r → FC Try.prog i_cartouchelaw23_awake xs (· = r) := by
  intro xs r h
  unfold g_cartouchelaw23_awake at h
  split at h
  · skip
    injection h with h; subst h
    exact awake_fc
  · cases h

end Go.Proofs.Ytinoaofgbkdohaa.Ag
namespace Go.Proofs.Ytinoaofgbkdohaa.Ag
theorem rdA_len (bs : List UInt8) : ∀ (n a : Nat) (acc r : Bss), a ≤ bs.length → rdA (stF bs) bs.length n a acc = some r → r.length + a ≤ acc.length + bs.length
  | 0, a, acc, r, ha, h => by simp [rdA] at h
  | n + 1, a, acc, r, ha, h => by
    rw [rdA] at h
    split at h
    · split at h
      · rename_i c q hf
        have hF := st_sound hf
        have := rdA_len bs n q _ r hF.2.2.1 h
        have := frL_pos c
        have := hF.2.1
        simp only [List.length_append, List.length_cons, List.length_nil] at *
        omega
      · cases h
    · injection h with h; subst h; omega
theorem Adds.len {bs : List UInt8} : ∀ {ps : List Pt} {a k : Nat}, Adds bs a ps k → ps.length + a + k ≤ bs.length
  | [], a, k, h => by simp only [Adds] at h; simp; omega
  | p :: ps, a, k, h => by
    obtain ⟨k1, k2, q, h1, h2, h3, h4⟩ := h
    have := Adds.len h4
    have := frL_pos p.b
    have := h3.2.1
    simp only [List.length_cons]; omega
attribute [-go_sem] Int.not_lt Int.not_le
noncomputable def envFS : Env := { split := true, fc := [(i_frame_Write, g_frame_Write), (i_frame_Read, g_frame_Read), (i_frame_Salvage, g_frame_Salvage), (i_cartoucheref23_Write, g_cartoucheref23_Write), (i_cartoucheref23_Read, g_cartoucheref23_Read), (i_cartoucheref23_Salvage, g_cartoucheref23_Salvage), (i_frame_Sum, g_frame_Sum), (i_cartoucheref23_Sum, g_cartoucheref23_Sum), (i_cartouchelaw23_lists, g_cartouchelaw23_lists), (i_cartouchelaw23_parts, g_cartouchelaw23_parts), (i_cartouchelaw23_awake, g_cartouchelaw23_awake)] }
theorem envFS_ok : EnvOk Try.prog envFS := ((((((((((EnvOk.noneS.addF g_cartouchelaw23_awake_ok).addF g_cartouchelaw23_parts_ok).addF g_cartouchelaw23_lists_ok).addF g_cartoucheref23_Sum_ok).addF g_frame_Sum_ok).addF g_cartoucheref23_Salvage_ok).addF g_cartoucheref23_Read_ok).addF g_cartoucheref23_Write_ok).addF g_frame_Salvage_ok).addF g_frame_Read_ok).addF g_frame_Write_ok
theorem frameStreams_fc (l : Bss) (b : List UInt8) (hl : szW l ≤ 100000000000000) (hb : b.length ≤ 1000000000) : FC Try.prog i_cartouchelaw23_FrameStreams [encL l, .slice (b.map encB)] (· = .bool true) := by
  have hat : atF b = stF b := funext fun a => (st_at b a).symm
  have hb' : b.length ≤ 140737488351232 := by omega
  have h1 := g_frame_Write_is l
  have h2 := g_cartoucheref23_Write_is l
  have h3 := g_frame_Read_is b
  have h4 := g_cartoucheref23_Read_is b
  have h5 := g_frame_Salvage_is b
  have h6 := g_cartoucheref23_Salvage_is b
  rw [if_pos hl] at h1 h2
  rw [if_pos (by omega)] at h3 h4 h5 h6
  rw [hat] at h4 h6
  obtain ⟨ps, k, hsv, had⟩ := sv_adds b (b.length + 1) 0 [] 0 (by omega) (by omega)
  have hpl := had.len
  rw [hsv] at h5 h6
  have h7 := g_cartouchelaw23_parts_is ps ps
  rw [if_pos (by omega), decide_eq_true rfl] at h7
  simp only [encL] at h1 h2
  simp only [encSv, List.nil_append, encPts] at h5 h6 h7
  cases hw : wrA l [] with
  | some w =>
    rw [hw] at h1 h2
    simp only [encWr, encWR, encBs] at h1 h2
    cases hr : rdA (stF b) b.length (b.length + 1) 0 [] with
    | some r =>
      have := rdA_len b _ _ _ _ (by omega) hr
      simp only [List.length_nil] at this
      have h8 := g_cartouchelaw23_lists_is r r
      rw [if_pos (by omega), decide_eq_true rfl] at h8
      simp only [encL] at h8
      rw [hr] at h3 h4
      simp only [encRd, encRR] at h3 h4
      (refine FC.vc (envFS_ok) F_cartouchelaw23_FrameStreams T_cartouchelaw23_FrameStreams L_cartouchelaw23_FrameStreams ?_; unfold A_cartouchelaw23_FrameStreams; simp only [args0, zl0, zl1, zl2, zl3, zn1])
      (simp -implicitDefEqProofs +contextual (maxSteps := 8000000) only [go_sem, ↓reduceIte, zn0, zn1, zn2, zn3, zn4, reduceCtorEq, zn5, zi0, zi1, zi2, zi3, zi4, zn6, zn7, zn8, zn9, encL, encPts, envFS, i_frame_Write, i_frame_Read, i_frame_Salvage, i_cartoucheref23_Write, i_cartoucheref23_Read, i_cartoucheref23_Salvage, i_frame_Sum, i_cartoucheref23_Sum, i_cartouchelaw23_lists, i_cartouchelaw23_parts, i_cartouchelaw23_awake, h1, h2, h3, h4, h5, h6, h7, h8, g_cartouchelaw23_awake_is, g_frame_Sum_is, g_cartoucheref23_Sum_is, hb'])
    | none =>
      rw [hr] at h3 h4
      simp only [encRd, encRR] at h3 h4
      (refine FC.vc (envFS_ok) F_cartouchelaw23_FrameStreams T_cartouchelaw23_FrameStreams L_cartouchelaw23_FrameStreams ?_; unfold A_cartouchelaw23_FrameStreams; simp only [args0, zl0, zl1, zl2, zl3, zn1])
      (simp -implicitDefEqProofs +contextual (maxSteps := 8000000) only [go_sem, ↓reduceIte, zn0, zn1, zn2, zn3, zn4, reduceCtorEq, zn5, zi0, zi1, zi2, zi3, zi4, zn6, zn7, zn8, zn9, encL, encPts, envFS, i_frame_Write, i_frame_Read, i_frame_Salvage, i_cartoucheref23_Write, i_cartoucheref23_Read, i_cartoucheref23_Salvage, i_frame_Sum, i_cartoucheref23_Sum, i_cartouchelaw23_lists, i_cartouchelaw23_parts, i_cartouchelaw23_awake, h1, h2, h3, h4, h5, h6, h7, g_cartouchelaw23_awake_is, g_frame_Sum_is, g_cartoucheref23_Sum_is, hb'])
  | none =>
    rw [hw] at h1 h2
    simp only [encWr, encWR, encBs] at h1 h2
    cases hr : rdA (stF b) b.length (b.length + 1) 0 [] with
    | some r =>
      have := rdA_len b _ _ _ _ (by omega) hr
      simp only [List.length_nil] at this
      have h8 := g_cartouchelaw23_lists_is r r
      rw [if_pos (by omega), decide_eq_true rfl] at h8
      simp only [encL] at h8
      rw [hr] at h3 h4
      simp only [encRd, encRR] at h3 h4
      (refine FC.vc (envFS_ok) F_cartouchelaw23_FrameStreams T_cartouchelaw23_FrameStreams L_cartouchelaw23_FrameStreams ?_; unfold A_cartouchelaw23_FrameStreams; simp only [args0, zl0, zl1, zl2, zl3, zn1])
      (simp -implicitDefEqProofs +contextual (maxSteps := 8000000) only [go_sem, ↓reduceIte, zn0, zn1, zn2, zn3, zn4, reduceCtorEq, zn5, zi0, zi1, zi2, zi3, zi4, zn6, zn7, zn8, zn9, encL, encPts, envFS, i_frame_Write, i_frame_Read, i_frame_Salvage, i_cartoucheref23_Write, i_cartoucheref23_Read, i_cartoucheref23_Salvage, i_frame_Sum, i_cartoucheref23_Sum, i_cartouchelaw23_lists, i_cartouchelaw23_parts, i_cartouchelaw23_awake, h1, h2, h3, h4, h5, h6, h7, g_cartouchelaw23_awake_is, g_frame_Sum_is, g_cartoucheref23_Sum_is, hb', h8])
    | none =>
      rw [hr] at h3 h4
      simp only [encRd, encRR] at h3 h4
      (refine FC.vc (envFS_ok) F_cartouchelaw23_FrameStreams T_cartouchelaw23_FrameStreams L_cartouchelaw23_FrameStreams ?_; unfold A_cartouchelaw23_FrameStreams; simp only [args0, zl0, zl1, zl2, zl3, zn1])
      (simp -implicitDefEqProofs +contextual (maxSteps := 8000000) only [go_sem, ↓reduceIte, zn0, zn1, zn2, zn3, zn4, reduceCtorEq, zn5, zi0, zi1, zi2, zi3, zi4, zn6, zn7, zn8, zn9, encL, encPts, envFS, i_frame_Write, i_frame_Read, i_frame_Salvage, i_cartoucheref23_Write, i_cartoucheref23_Read, i_cartoucheref23_Salvage, i_frame_Sum, i_cartoucheref23_Sum, i_cartouchelaw23_lists, i_cartouchelaw23_parts, i_cartouchelaw23_awake, h1, h2, h3, h4, h5, h6, h7, g_cartouchelaw23_awake_is, g_frame_Sum_is, g_cartoucheref23_Sum_is, hb'])
end Go.Proofs.Ytinoaofgbkdohaa.Ag
