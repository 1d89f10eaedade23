/- Each operation's translation gives what the model's operation does. -/
import Derived.Test.YtdlgenppdgkacaaGreatDoorAg12
set_option linter.unusedVariables false
set_option linter.unusedSimpArgs false
namespace Go.Proofs.YtdlgenppdgkacaaGreatDoor.Ag
open Go.RowKit (Below)

section
variable {P : Program} {N : Nat} {s : St} {d : Option Tmp} {ty : TypeId} {ps : String} {af : Array Edge} {g : Option (Nat × Bool)}
theorem ok_slcP {t e : TypeId} {i : TypeInfo} {x hi : Operand} {x' h' : AOpd} {v : TV} {zs : List IV} {σ1 : Slots} {h : Int} {k : Nat}
    (ht : P.underlying t = some (.slice e)) (hinf : P.info? e = some i) (tx : trOpd x = some x') (th : trOpt (some hi) (some h')) (hx : ev s.ρ x' = some v) (hv : shut v s.σ = some (.slice zs, σ1)) (eh : evOpt s.ρ (some h') = some (some h))
    (h0 : 0 ≤ h) (h1 : h ≤ zs.length) (hsz : oneSize i.size zs = true) : OpOk P N ⟨d, .slice t x none (some hi) none, ty, ps, af, g⟩ s (.lst k (nxt σ1 k)) (upd σ1 k (nxt σ1 k, .pre (zs.take h.toNat) (zs.drop h.toNat))) := by
  refine .of fun K a w hs => ?_
  obtain ⟨K1, g1, g2, g3⟩ := shut_ok v hs.slots (ev_rel hs tx hx) hv
  obtain ⟨A, cap, hA, hcap⟩ : ∃ A cap, a.eval x = .slice A zs.length cap ∧ zs.length ≤ cap := by
    generalize hcv : a.eval x = cv at g3
    cases g3 with
    | empty A cap => exact ⟨A, cap, rfl, by simp⟩
    | slice _ b off cap sz cv hc hs hI hm ho hr => exact ⟨_, cap, rfl, hc⟩
  rcases evOpt_rel hs th eh with ⟨e1, _⟩ | ⟨o', kk, m', e1, e2, e3⟩
  · cases e1
  injection e1 with e1; subst e1
  injection e2 with e2; subst e2
  have hb := run_hi (P := P) zs.length cap kk h h0 (by omega) w
  rw [hA] at g3
  have hcut := g3.cut (p := 0) (q := h.toNat) (mm := cap) (by omega) (by omega) (by omega) (fun y hy => (oneSize_mem hsz y hy).1)
  rw [add0 _ _ _ _ rfl, Nat.sub_zero, Nat.sub_zero] at hcut
  have ecut : cut zs 0 h.toNat = zs.take h.toNat := by simp [cut]
  rw [ecut] at hcut
  have hlen : (zs.take h.toNat).length = h.toNat := by simp; omega
  have hrel : ∀ K', Kr.Le K1 w K' w → IRel K' w (.pre (zs.take h.toNat) (zs.drop h.toNat)) (.slice A h.toNat cap) := by
    intro K' le
    refine ⟨A, cap, by rw [hlen], hcut.stays le.1, by simp; omega, ?_⟩
    rw [List.take_append_drop]
    have : (zs.take h.toNat).length + (zs.drop h.toNat).length = zs.length := by rw [← List.length_append, List.take_append_drop]
    rw [this]
    exact g3.stays le.1
  have hadd := g1.add (w' := w) k (.pre (zs.take h.toNat) (zs.drop h.toNat)) (.slice A h.toNat cap) none ⟨rfl, rfl, rfl, Nat.le_refl _, fun _ _ _ => rfl⟩ (fun b hb => by cases hb) (fun b hb => by cases hb) (fun K' le _ _ => hrel K' le)
  have hnx := g1.nxt k
  rw [hnx] at hadd
  have hA1 : (K1.add k (.slice A h.toNat cap)).A k (nxt σ1 k) = .slice A h.toNat cap := by simp [Kr.add, hnx]
  refine ⟨K1.add k (.slice A h.toNat cap), w, .slice A h.toNat cap, ?_, ?_, hadd.1, g2.trans hadd.2⟩
  · have := add0 A cap 0 i.size rfl
    simp [execOp, hA, e3, Instr.sliceAt, Instr.slice, run_underlying' ht, hb, sizeOf, typeInfo, hinf]
    intro hne
    cases A <;> simp [Addr.add]
  · have h9 := TRel.lst (K := K1.add k (.slice A h.toNat cap)) (w := w) k (nxt σ1 k) (by simp [Kr.add, hnx])
    rw [hA1] at h9; exact h9
theorem ok_slcQ {t e : TypeId} {i : TypeInfo} {x hi : Operand} {x' h' : AOpd} {xs ys : List IV} {h : Int} {k n : Nat}
    (ht : P.underlying t = some (.slice e)) (hinf : P.info? e = some i) (tx : trOpd x = some x') (th : trOpt (some hi) (some h')) (hx : ev s.ρ x' = some (.lst k n)) (hk : lk s.σ k = some (n, .pre xs ys)) (eh : evOpt s.ρ (some h') = some (some h))
    (h0 : 0 ≤ h) (h1 : h ≤ xs.length + ys.length) (hsz : oneSize i.size (xs ++ ys) = true) : OpOk P N ⟨d, .slice t x none (some hi) none, ty, ps, af, g⟩ s (.iv (.slice ((xs ++ ys).take h.toNat))) s.σ := by
  refine .of fun K a w hs => ?_
  have g3 := ev_rel hs tx hx
  obtain ⟨A, cap, hA, _, hcap, hext⟩ := (hs.slots.rel k n _ hk).2
  have hev : a.eval x = .slice A xs.length cap := by
    generalize a.eval x = cv at g3
    cases g3
    exact hA
  rcases evOpt_rel hs th eh with ⟨e1, _⟩ | ⟨o', kk, m', e1, e2, e3⟩
  · cases e1
  injection e1 with e1; subst e1
  injection e2 with e2; subst e2
  have hb := run_hi (P := P) xs.length cap kk h h0 (by omega) w
  have hl : (xs ++ ys).length = xs.length + ys.length := List.length_append
  rw [← List.length_append] at hext
  have hcut := hext.cut (p := 0) (q := h.toNat) (mm := cap) (by omega) (by rw [hl]; omega) (by omega) (fun y hy => (oneSize_mem hsz y hy).1)
  rw [add0 _ _ _ _ rfl, Nat.sub_zero, Nat.sub_zero] at hcut
  have ecut : cut (xs ++ ys) 0 h.toNat = (xs ++ ys).take h.toNat := by simp [cut]
  rw [ecut] at hcut
  refine ⟨K, w, .slice A h.toNat cap, ?_, .iv _ _ hcut, hs.slots, Evo.refl _ _ _⟩
  simp [execOp, hev, e3, Instr.sliceAt, Instr.slice, run_underlying' ht, hb, sizeOf, typeInfo, hinf]
  intro hne
  cases A <;> simp [Addr.add]
end

theorem aop_mov {ρ : List (Nat × TV)} {σ σ' : Slots} {x : AOpd} {r : TV} (h : aop ρ σ (.mov x) = some (r, σ')) : ev ρ x = some r ∧ σ' = σ := by
  simp only [aop] at h
  split at h
  · rename_i v hv; simp at h; obtain ⟨rfl, rfl⟩ := h; exact ⟨hv, rfl⟩
  · cases h

theorem ok_nilck {P : Program} {N : Nat} {s : St} {d : Option Tmp} {ty : TypeId} {ps : String} {af : Array Edge} {g : Option (Nat × Bool)} {x : Operand} {x' : AOpd} {v : TV} (tx : trOpd x = some x') (hx : ev s.ρ x' = some v) (h : notNil v = true) :
    OpOk P N ⟨d, .nilCheck x, ty, ps, af, g⟩ s v s.σ := by
  refine .pure fun K a w hs => ?_
  have hr := ev_rel hs tx hx
  refine ⟨a.eval x, ?_, hr⟩
  have key : ∀ ad, a.eval x = .pointer (some ad) → (execOp a.eval ⟨d, .nilCheck x, ty, ps, af, g⟩).run P w = .ok (.value (a.eval x)) w := by
    intro ad e
    simp [execOp, e]
  unfold notNil at h
  split at h
  · cases hr with
    | iv _ _ hr => generalize hcv : a.eval x = cv at hr key; cases hr; exact key _ rfl
  · generalize hcv : a.eval x = cv at hr key; cases hr; exact key _ rfl
  · generalize hcv : a.eval x = cv at hr key; cases hr; exact key _ rfl
  · cases h

theorem aop_ok0 {P : Program} {N ch : Nat} {s : St} {o : Oper} {ao : AOp} {r : TV} {σ' : Slots} (ht : trOp0 P ch o = some ao) (h : aop s.ρ s.σ ao = some (r, σ')) : OpOk P N o s r σ' := by
  obtain ⟨d, op, ty, ps, af, g⟩ := o
  cases op
  case move x =>
    simp only [trOp0] at ht
    split at ht
    · rename_i x' tx; injection ht with ht; subst ht
      obtain ⟨h1, rfl⟩ := aop_mov h
      exact ok_move tx h1
    · cases ht
  case assign x =>
    simp only [trOp0] at ht
    split at ht
    · rename_i x' tx; injection ht with ht; subst ht
      obtain ⟨h1, rfl⟩ := aop_mov h
      exact ok_assign tx h1
    · cases ht
  case pick c x y =>
    simp only [trOp0] at ht
    split at ht
    · rename_i c' x' y' tc tx tyy; injection ht with ht
      split at ht
      · subst ht
        simp only [aop] at h
        split at h
        · rename_i t hc
          split at h
          · rename_i v hv; simp at h; obtain ⟨rfl, rfl⟩ := h
            exact ok_pickB tc tx tyy hc hv
          · cases h
        · cases h
      · subst ht
        simp only [aop] at h
        split at h
        · rename_i t hc
          split at h
          · rename_i v hv; simp at h; obtain ⟨rfl, rfl⟩ := h
            exact ok_pick tc tx tyy hc hv
          · cases h
        · cases h
    · cases ht
  case binOp op t x y t2 =>
    simp only [trOp0] at ht
    split at ht
    · rename_i x' y' tx tyy
      split at ht
      · rename_i ng ks hop hks; injection ht with ht; subst ht
        simp only [aop] at h
        split at h
        · rename_i a b ha hb
          split at h
          · rename_i z hz; simp at h; obtain ⟨rfl, rfl⟩ := h
            exact ok_eqs tx tyy ha hb hop hks hz
          · cases h
        · cases h
      · injection ht with ht; subst ht
        simp only [aop] at h
        split at h
        · rename_i a b ha hb
          split at h
          · cases h
          · rename_i hbool
            split at h
            · rename_i z hz; simp at h; obtain ⟨rfl, rfl⟩ := h
              refine ok_bin tx tyy ha hb ?_ hz
              rintro p q rfl rfl
              simp only [isBoolIV, Bool.true_and, Bool.not_eq_true', Bool.not_eq_false] at hbool
              unfold boolType at hbool
              split at hbool
              · assumption
              · cases hbool
            · cases h
        · cases h
    · cases ht
  case unOp op t x =>
    simp only [trOp0] at ht
    split at ht
    · rename_i x' tx; injection ht with ht; subst ht
      simp only [aop] at h
      split at h
      · rename_i a ha
        split at h
        · rename_i z hz; simp at h; obtain ⟨rfl, rfl⟩ := h
          exact ok_un tx ha hz
        · cases h
      · cases h
    · cases ht
  case convert src dst x =>
    simp only [trOp0] at ht
    split at ht
    · rename_i x' tx
      split at ht
      · rename_i e h1 h3
        split at ht
        · rename_i h2; injection ht with ht; subst ht
          simp only [aop] at h
          split at h
          · rename_i v hv
            split at h
            · rename_i xs hxs
              split at h
              · rename_i bs hbs; simp at h; obtain ⟨rfl, rfl⟩ := h
                exact ok_b2s h1 h2 h3 tx hv hxs hbs
              · cases h
            · cases h
          · cases h
        · cases ht
      · rename_i u k _ h1 h2; injection ht with ht; subst ht
        simp only [aop] at h
        split at h
        · rename_i k' n hn; simp at h; obtain ⟨rfl, rfl⟩ := h
          exact ok_conv tx hn h1 h2
        · cases h
      · cases ht
    · cases ht
  case extract x i =>
    simp only [trOp0] at ht
    split at ht
    · rename_i x' tx; injection ht with ht; subst ht
      simp only [aop] at h
      split at h
      · rename_i xs hx
        split at h
        · rename_i c hc; simp at h; obtain ⟨rfl, rfl⟩ := h
          exact ok_ext tx (.inl ⟨xs, c, hx, hc, rfl⟩)
        · cases h
      · rename_i xs hx
        split at h
        · rename_i c hc; simp at h; obtain ⟨rfl, rfl⟩ := h
          exact ok_ext tx (.inr ⟨xs, hx, hc⟩)
        · cases h
      · cases h
    · cases ht
  case indexAddr t x y =>
    simp only [trOp0] at ht
    split at ht
    · rename_i e he
      split at ht
      · rename_i i x' y' hi tx tyy; injection ht with ht; subst ht
        simp only [aop] at h
        split at h
        · rename_i xs k n hx hy
          split at h
          · rename_i h0
            split at h
            · rename_i z hz
              split at h
              · rename_i hsz; simp at h; obtain ⟨rfl, rfl⟩ := h
                exact ok_idxA he hi tx tyy hx hy h0 hz hsz
              · cases h
            · cases h
          · cases h
        · rename_i k m kn n hx hy
          split at h
          · rename_i r' hr; simp at h; obtain ⟨rfl, rfl⟩ := h
            exact ok_idxL he hi tx tyy hx hy hr
          · cases h
        · cases h
      · cases ht
    · rename_i len e he
      split at ht
      · rename_i i x' y' hi tx tyy; injection ht with ht; subst ht
        simp only [aop] at h
        split at h
        · rename_i v k n hx hy
          split at h
          · rename_i hn
            split at h
            · rename_i r' hr; simp at h; obtain ⟨rfl, rfl⟩ := h
              exact ok_arrA he ⟨i, hi, rfl⟩ tx tyy hx hy hn.1 hn.2 hr
            · cases h
          · cases h
        · cases h
      · cases ht
    · cases ht
  case index t x y =>
    simp only [trOp0] at ht
    split at ht
    · rename_i he
      split at ht
      · rename_i x' y' tx tyy; injection ht with ht; subst ht
        simp only [aop] at h
        split at h
        · rename_i b k n hx hy
          split at h
          · rename_i h0
            split at h
            · rename_i z hz; simp at h; obtain ⟨rfl, rfl⟩ := h
              exact ok_idxS he tx tyy hx hy h0 hz
            · cases h
          · cases h
        · cases h
      · cases ht
    · rename_i len e he
      split at ht
      · rename_i i ag x' y' hi hag tx tyy; injection ht with ht; subst ht
        simp only [aop] at h
        split at h
        · rename_i v k n hx hy
          split at h
          · rename_i hn
            split at h
            · rename_i r' hr; simp at h; obtain ⟨rfl, rfl⟩ := h
              exact ok_arrV he ⟨i, hi, rfl⟩ (agOf_is hag) tx tyy hx hy hn.1 hn.2 hr
            · cases h
          · cases h
        · cases h
      · cases ht
    · cases ht
  case fieldAddr t x fi =>
    simp only [trOp0] at ht
    split at ht
    · rename_i fs hu
      split at ht
      · rename_i f hf
        split at ht
        · rename_i i ag x' hi hag tx
          split at ht
          · cases ht
          · rename_i h0; injection ht with ht; subst ht
            simp only [aop] at h
            split at h
            · rename_i v hv
              split at h
              · rename_i r' hr; simp at h; obtain ⟨rfl, rfl⟩ := h
                exact ok_fldA hu hf ⟨i, hi, rfl⟩ h0 tx hv hr
              · cases h
            · cases h
        · cases ht
      · cases ht
    · cases ht
  case field t x fi =>
    simp only [trOp0] at ht
    split at ht
    · rename_i fs hu
      split at ht
      · rename_i f hf
        split at ht
        · rename_i i ag x' hi hag tx
          injection ht with ht; subst ht
          simp only [aop] at h
          split at h
          · rename_i v hv
            split at h
            · rename_i r' hr; simp at h; obtain ⟨rfl, rfl⟩ := h
              exact ok_fld hu hf ⟨i, hi, rfl⟩ (agOf_is hag) tx hv hr
            · cases h
          · cases h
        · cases ht
      · cases ht
    · cases ht
  case load t x =>
    simp only [trOp0] at ht
    split at ht
    · rename_i i ag x' hi hag tx; injection ht with ht; subst ht
      simp only [aop] at h
      split at h
      · rename_i v hv
        split at h
        · rename_i r' hr; simp at h; obtain ⟨rfl, rfl⟩ := h
          exact ok_load ⟨i, hi, rfl⟩ (agOf_is hag) tx hv hr
        · split at h
          · rename_i r' hr; simp at h; obtain ⟨rfl, rfl⟩ := h
            exact ok_loadT ⟨i, hi, rfl⟩ (agOf_is hag) tx hv hr
          · cases h
      · cases h
    · cases ht
  case store t x y =>
    simp only [trOp0] at ht
    split at ht
    · rename_i i x' y' hi tx tyy; injection ht with ht; subst ht
      simp only [aop] at h
      split at h
      · rename_i p v hp hv
        split at h
        · rename_i σ1 h1; simp at h; obtain ⟨rfl, rfl⟩ := h
          exact ok_store ⟨i, hi, rfl⟩ tx tyy hp hv h1
        · split at h
          · rename_i σ1 h1; simp at h; obtain ⟨rfl, rfl⟩ := h
            exact ok_storeT ⟨i, hi, rfl⟩ tx tyy hp hv h1
          · cases h
      · cases h
    · cases ht
  case box e x =>
    simp only [trOp0] at ht
    split at ht
    · rename_i x' tx; injection ht with ht
      cases ch with
      | zero =>
        simp at ht; subst ht
        simp only [aop] at h
        split at h
        · rename_i v hv
          split at h
          · cases h
          · rename_i y σ1 hne hy; simp at h; obtain ⟨rfl, rfl⟩ := h
            exact ok_boxI tx hv hy (fun xs e => hne xs (by rw [e] at hy; exact e))
          · cases h
        · cases h
      | succ k =>
        simp at ht; subst ht
        simp only [aop] at h
        split at h
        · rename_i v hv
          split at h
          · rename_i cs hc; simp at h; obtain ⟨rfl, rfl⟩ := h
            exact ok_box tx hv hc
          · cases h
        · cases h
    · cases ht
  case alloc e =>
    simp only [trOp0] at ht
    split at ht
    · rename_i zs hz
      split at ht
      · rename_i k; injection ht with ht; subst ht
        simp only [aop] at h
        simp at h; obtain ⟨rfl, rfl⟩ := h
        exact ok_alloc (zeroOf_is hz)
      · cases ht
    · cases ht
  case build t parts =>
    simp only [trOp0] at ht
    split at ht
    · rename_i pl zs hp hz
      split at ht
      · rename_i r' hr; injection ht with ht; subst ht
        simp only [aop] at h
        split at h
        · rename_i cs hc; simp at h; obtain ⟨rfl, rfl⟩ := h
          exact ok_build hp (zeroOf_is hz) (trParts_is hr) hc
        · cases h
      · cases ht
    · cases ht
  case buildSlice t n parts =>
    simp only [trOp0] at ht
    split at ht
    · rename_i e he
      split at ht
      · rename_i i ops hi hops
        split at ht
        · rename_i z r' hz hr
          split at ht
          · rename_i hn0; injection ht with ht; subst ht
            obtain ⟨rfl, hpe⟩ := hn0
            have hpe : parts = #[] := by simpa using hpe
            subst hpe
            simp only [aop] at h
            simp at h; obtain ⟨rfl, rfl⟩ := h
            exact ok_blist he hi
          split at ht
          · rename_i hcond; injection ht with ht; subst ht
            obtain ⟨c1, c2, c3, c4⟩ := hcond
            have e1 : parts = (partsInOrder ops).toArray := by
              apply Array.ext'
              rw [inOrder_is hops]; rfl
            have hne : ops ≠ [] := by intro e; subst e; simp at c3; exact c4 c3
            cases ch with
            | zero =>
              simp only [aop] at h
              split at h
              · rename_i vs hvs
                split at h
                · rename_i ys σ1 hsh
                  split at h
                  · rename_i hone; simp at h; obtain ⟨rfl, rfl⟩ := h
                    have := ok_bslice (N := N) (d := d) (ty := ty) (ps := ps) (af := af) (g := g) he hi hz c1 c2 hne hr hvs hsh hone
                    rw [c3, e1]
                    exact this
                  · cases h
                · cases h
              · cases h
            | succ k =>
              simp only [aop] at h
              split at h
              · rename_i vs hvs
                split at h
                · rename_i cs hcs; simp at h; obtain ⟨rfl, rfl⟩ := h
                  have := ok_blit (N := N) (k := k) (d := d) (ty := ty) (ps := ps) (af := af) (g := g) he hi hz c1 c2 hne hr hvs hcs
                  rw [c3, e1]
                  exact this
                · cases h
              · cases h
          · cases ht
        · cases ht
      · cases ht
    · cases ht
  case makeSlice t x c =>
    simp only [trOp0] at ht
    split at ht
    · rename_i e he
      split at ht
      · rename_i i ag x' c' hi hag tx tc
        split at ht
        · rename_i z hz
          split at ht
          · rename_i y hy
            split at ht
            · rename_i hcond; injection ht with ht; subst ht
              obtain ⟨c1, c2⟩ := hcond
              simp only [aop] at h
              split at h
              · rename_i kl l kc m hl hm
                split at h
                · rename_i hb; simp at h; obtain ⟨rfl, rfl⟩ := h
                  exact ok_mks he hi hz (zeroElV_cells hy) c1 tx tc hl hm c2 hb.1 hb.2.1 hb.2.2
                · cases h
              · cases h
            · cases ht
          · cases ht
        · cases ht
      · cases ht
    · cases ht
  case slice t x lo hi mx =>
    simp only [trOp0] at ht
    split at ht
    · rename_i e he
      split at ht
      · rename_i i x' lo' hi' mx' hi1 tx tl th tm
        split at ht
        · cases ht
        · rename_i hmh
          split at ht
          · rename_i h' hno; injection ht with ht; subst ht
            simp only [Bool.and_eq_true, Option.isNone_iff_eq_none] at hno
            obtain ⟨hlo0, hmx0⟩ := hno; subst hlo0; subst hmx0
            obtain ⟨ho, rfl⟩ : ∃ o, hi = some o := by
              cases hi with
              | none => simp [trOpt?] at th
              | some o => exact ⟨o, rfl⟩
            simp only [aop] at h
            split at h
            · rename_i k n hh hv hhh
              split at h
              · rename_i n' xs ys hk
                split at h
                · rename_i hc
                  simp only [Bool.and_eq_true, decide_eq_true_eq] at hc
                  simp at h; obtain ⟨rfl, rfl⟩ := h
                  obtain ⟨⟨⟨c1, rfl⟩, c2⟩, c3⟩ := hc
                  exact ok_slcQ he hi1 tx (trOpt?_is th) hv hk hhh c2 c3 c1
                · cases h
              · cases h
            · cases h
          · rename_i k h' hno; injection ht with ht; subst ht
            simp only [Bool.and_eq_true, Option.isNone_iff_eq_none] at hno
            obtain ⟨hlo0, hmx0⟩ := hno; subst hlo0; subst hmx0
            obtain ⟨ho, rfl⟩ : ∃ o, hi = some o := by
              cases hi with
              | none => simp [trOpt?] at th
              | some o => exact ⟨o, rfl⟩
            simp only [aop] at h
            split at h
            · rename_i v hh hv hhh
              split at h
              · rename_i zs σ1 hsh
                split at h
                · rename_i hc
                  simp only [Bool.and_eq_true, decide_eq_true_eq] at hc
                  simp at h; obtain ⟨rfl, rfl⟩ := h
                  exact ok_slcP he hi1 tx (trOpt?_is th) hv hsh hhh hc.1.2 hc.2 hc.1.1
                · cases h
              · cases h
            · cases h
          injection ht with ht; subst ht
          simp only [aop] at h
          split at h
          · rename_i v l hh m hv hl hhh hm
            split at h
            · rename_i xs σ1 hsh
              split at h
              · rename_i hone
                split at h
                · rename_i p q hcut; simp at h; obtain ⟨rfl, rfl⟩ := h
                  refine ok_slc he hi1 tx (trOpt?_is tl) (trOpt?_is th) (trOpt?_is tm) ?_ hv hsh hl hhh hm hcut hone
                  intro h5
                  cases hi with
                  | none => simp [h5] at hmh
                  | some o => rfl
                · cases h
              · cases h
            · cases h
          · cases h
      · cases ht
    · rename_i he
      split at ht
      · rename_i x' lo' hi' tx tl th; injection ht with ht; subst ht
        simp only [aop] at h
        split at h
        · rename_i b l hh hx hl hhh
          split at h
          · rename_i p q hcut; simp at h; obtain ⟨rfl, rfl⟩ := h
            exact ok_slcS he tx (trOpt?_is tl) (trOpt?_is th) hx hl hhh hcut
          · cases h
        · cases h
      · cases ht
    · cases ht
  case nilCheck x =>
    simp only [trOp0] at ht
    split at ht
    · rename_i x' tx; injection ht with ht; subst ht
      simp only [aop] at h
      split at h
      · rename_i v hv
        split at h
        · rename_i hn; simp at h; obtain ⟨rfl, rfl⟩ := h
          exact ok_nilck tx hv hn
        · cases h
      · cases h
    · cases ht
  case call c =>
    obtain ⟨callee, args, argTypes⟩ := c
    simp only [trOp0] at ht
    split at ht
    · split at ht
      · rename_i x t h1 h2
        have e1 : args = #[x] := by apply Array.ext'; simpa using h1
        have e2 : argTypes = #[t] := by apply Array.ext'; simpa using h2
        subst e1; subst e2
        split at ht
        · rename_i x' e tx he; injection ht with ht; subst ht
          simp only [aop] at h
          split at h
          · rename_i v hv
            split at h
            · rename_i hs
              split at h
              · rename_i n hn; simp at h; obtain ⟨rfl, rfl⟩ := h
                refine ok_len tx hv hn (.inl ⟨e, he, ?_⟩)
                rintro b rfl
                simp [isStr] at hs
              · simp only [Bool.false_eq_true, if_false] at h
                split at h
                · rename_i n hn; simp at h; obtain ⟨rfl, rfl⟩ := h
                  exact ok_lenT he tx hv hn
                · cases h
            · cases h
          · cases h
        · rename_i x' kt et tx he; injection ht with ht; subst ht
          simp only [aop] at h
          split at h
          · rename_i v hv
            split at h
            · rename_i n hn; simp at h; obtain ⟨rfl, rfl⟩ := h
              exact ok_lenM he tx hv hn
            · cases h
          · cases h
        · rename_i x' tx he; injection ht with ht; subst ht
          simp only [aop] at h
          split at h
          · rename_i v hv
            split at h
            · rename_i hs
              split at h
              · rename_i n hn; simp at h; obtain ⟨rfl, rfl⟩ := h
                refine ok_len tx hv hn (.inr ⟨he, ?_⟩)
                unfold isStr at hs
                split at hs
                · exact ⟨_, rfl⟩
                · cases hs
              · simp at h
            · cases h
          · cases h
        · cases ht
      · cases ht
    · split at ht
      · rename_i x y t t' h1 h2
        have e1 : args = #[x, y] := by apply Array.ext'; simpa using h1
        have e2 : argTypes = #[t, t'] := by apply Array.ext'; simpa using h2
        subst e1; subst e2
        split at ht
        · rename_i htt; subst htt
          split at ht
          · rename_i e he
            split at ht
            · rename_i i x' y' hi tx tyy
              split at ht
              · rename_i z hz
                split at ht
                · rename_i hcond; injection ht with ht; subst ht
                  obtain ⟨c1, c2, c3⟩ := hcond
                  simp only [aop] at h
                  split at h
                  · rename_i v u hv hu
                    split at h
                    · rename_i k xs ys hd hsrc
                      split at h
                      · rename_i hone
                        split at h
                        · rename_i hle; simp at h; obtain ⟨rfl, rfl⟩ := h
                          exact ok_app he hi hz c1 c2 c3 tx tyy hv hu hd hsrc hone hle
                        · cases h
                      · cases h
                    · split at h
                      · rename_i k cs m ds hd hsrc
                        split at h
                        · rename_i hle; simp at h; obtain ⟨rfl, rfl⟩ := h
                          exact ok_appT he hi hz c1 c2 c3 tx tyy hv hu hd hsrc hle
                        · cases h
                      · cases h
                  · cases h
                · cases ht
              · cases ht
            · cases ht
          · cases ht
        · cases ht
      · cases ht
    · split at ht
      · rename_i x y h1
        have e1 : args = #[x, y] := by apply Array.ext'; simpa using h1
        subst e1
        split at ht
        · rename_i x' y' tx tyy; injection ht with ht; subst ht
          simp only [aop] at h
          split at h
          · rename_i k a k' b hx hy; simp at h; obtain ⟨rfl, rfl⟩ := h
            exact ok_mm (isMax := true) tx tyy hx hy
          · cases h
        · cases ht
      · cases ht
    · split at ht
      · rename_i x y h1
        have e1 : args = #[x, y] := by apply Array.ext'; simpa using h1
        subst e1
        split at ht
        · rename_i x' y' tx tyy; injection ht with ht; subst ht
          simp only [aop] at h
          split at h
          · rename_i k a k' b hx hy; simp at h; obtain ⟨rfl, rfl⟩ := h
            exact ok_mm (isMax := false) tx tyy hx hy
          · cases h
        · cases ht
      · cases ht
    · split at ht
      · injection ht with ht; subst ht; simp [aop] at h
      · cases ht
    · split at ht
      · injection ht with ht; subst ht; simp [aop] at h
      · cases ht
    · cases ht
  case makeMap t res =>
    cases res with
    | some o => simp [trOp0] at ht
    | none =>
      simp only [trOp0] at ht
      split at ht
      · rename_i kt et he
        split at ht
        · rename_i kd hk; injection ht with ht; subst ht
          simp only [aop, Option.some.injEq, Prod.mk.injEq] at h
          obtain ⟨rfl, rfl⟩ := h
          exact ok_mkmap he hk
        · cases ht
      · cases ht
  case lookup t x y ok =>
    simp only [trOp0] at ht
    split at ht
    · rename_i kt et he
      split at ht
      · rename_i kd i x' y' hk hi tx tyy
        split at ht
        · rename_i z hz
          split at ht
          · rename_i zi hzi; injection ht with ht; subst ht
            simp only [aop] at h
            split at h
            · rename_i v key hx hy
              split at h
              · rename_i r' hr; simp at h; obtain ⟨rfl, rfl⟩ := h
                exact ok_look he hk hi hz (fun I w => ivC_rel hzi I w) tx tyy hx hy hr
              · cases h
            · cases h
          · cases ht
        · cases ht
      · cases ht
    · cases ht
  case mapUpdate t x y z =>
    simp only [trOp0] at ht
    split at ht
    · rename_i kt et he
      split at ht
      · rename_i kd x' y' z' hk tx tyy tz; injection ht with ht; subst ht
        simp only [aop] at h
        split at h
        · rename_i v key u hx hy hz
          split at h
          · rename_i σ1 h1; simp at h; obtain ⟨rfl, rfl⟩ := h
            exact ok_mapset he hk tx tyy tz hx hy hz h1
          · cases h
        · cases h
      · cases ht
    · cases ht
  case makeFunc f first captured =>
    simp only [trOp0] at ht
    split at ht
    · rename_i fs cs tf tc; injection ht with ht; subst ht
      simp only [aop] at h
      split at h
      · rename_i vs us h1 h2; simp at h; obtain ⟨rfl, rfl⟩ := h
        exact ok_mkfn tf tc h1 h2
      · cases h
    · cases ht
  all_goals (simp [trOp0] at ht)

theorem aop_okL {P : Program} {N : Nat} {s : St} {d : Option Tmp} {ty : TypeId} {ps : String} {af : Array Edge} {g : Option (Nat × Bool)} {t : TypeId} {x : Operand} {lo hi mx : Option Operand} {ao : AOp} {r : TV} {σ' : Slots}
    (ht : (match P.underlying t with
    | some (.slice e) => (match P.info? e, trOpd x, trOpt? lo, trOpt? hi, trOpt? mx with
      | some i, some x', some lo', some hi', some mx' => if mx.isSome && !hi.isSome then none else some (AOp.slcL i.size x' lo' hi' mx')
      | _, _, _, _, _ => none)
    | _ => none) = some ao) (h : aop s.ρ s.σ ao = some (r, σ')) : OpOk P N ⟨d, .slice t x lo hi mx, ty, ps, af, g⟩ s r σ' := by
  split at ht
  · rename_i e he
    split at ht
    · rename_i i x' lo' hi' mx' hi1 tx tl th tm
      split at ht
      · cases ht
      · rename_i hmh
        injection ht with ht; subst ht
        simp only [aop] at h
        split at h
        · rename_i k n l hh m hx el eh em
          split at h
          · rename_i n' it hk
            split at h
            · rename_i e' sz' cs htc
              split at h
              · rename_i hc
                obtain ⟨⟨rfl, rfl, hz⟩, b1, b2, b3, b4⟩ := hc
                injection h with h; injection h with h1 h2; subst h1; subst h2
                exact ok_slcL he hi1 tx (trOpt?_is tl) (trOpt?_is th) (trOpt?_is tm) (by cases mx <;> cases hi <;> simp_all) hx hk htc hz el eh em b1 b2 b3 b4
              · cases h
            · cases h
          · cases h
        · cases h
    · cases ht
  · cases ht
theorem aop_okX1 {P : Program} {N ch : Nat} {s : St} {d : Option Tmp} {ty : TypeId} {ps : String} {af : Array Edge} {g : Option (Nat × Bool)} {t : TypeId} {x : Operand} {lo0 hi0 mx0 : Option Operand} {ao : AOp} {r : TV} {σ' : Slots}
    (ht : trX1 P ch t x lo0 hi0 mx0 = some ao) (h : aop s.ρ s.σ ao = some (r, σ')) : OpOk P N ⟨d, .slice t x lo0 hi0 mx0, ty, ps, af, g⟩ s r σ' := by
  unfold trX1 at ht
  split at ht
  · rename_i hi
    split at ht
    · split at ht
      · rename_i e he
        split at ht
        · rename_i i x' h' hi1 tx th
          injection ht with ht; subst ht
          simp only [aop] at h
          split at h
          · rename_i k n hh hx hhh
            split at h
            · rename_i n' it hk
              split at h
              · rename_i hc
                obtain ⟨rfl, h0⟩ := hc
                split at h
                · rename_i it' hit; simp at h; obtain ⟨rfl, rfl⟩ := h
                  exact ok_slcH he hi1 tx th hx hk hhh h0 hit
                · cases h
              · cases h
            · cases h
          · rename_i z hh hx hhh
            split at h
            · rename_i xs hnz
              split at h
              · rename_i hc
                simp only [Bool.and_eq_true, decide_eq_true_eq] at hc
                simp at h; obtain ⟨rfl, rfl⟩ := h
                refine ok_slc (lo' := none) (hi' := some h') (mx' := none) he hi1 tx trivial th trivial (by simp) hx (by simp [shut, hnz]) rfl hhh rfl ?_ hc.1.1
                simp [cutAt, hc.1.2, hc.2]
              · cases h
            · cases h
          · cases h
        · cases ht
      · cases ht
    · cases ht
  · rename_i lo
    split at ht
    · split at ht
      · rename_i e he
        split at ht
        · rename_i i x' l' hi1 tx tl
          injection ht with ht; subst ht
          simp only [aop] at h
          split at h
          · rename_i k n ll hx hll
            split at h
            · rename_i n' it hk
              split at h
              · rename_i e' sz' cs htc
                split at h
                · rename_i hc
                  obtain ⟨rfl, rfl, h1, h2, h3⟩ := hc
                  simp at h; obtain ⟨rfl, rfl⟩ := h
                  exact ok_slcT he hi1 tx tl hx hk htc hll h2 h1 h3
                · cases h
              · cases h
            · cases h
          · rename_i z ll hx hll
            split at h
            · rename_i xs hnz
              split at h
              · rename_i hc
                simp only [Bool.and_eq_true, decide_eq_true_eq] at hc
                simp at h; obtain ⟨rfl, rfl⟩ := h
                refine ok_slc (lo' := some l') (hi' := none) (mx' := none) he hi1 tx tl trivial trivial (by simp) hx (by simp [shut, hnz]) hll rfl rfl ?_ hc.1.1
                simp [cutAt, hc.1.2, hc.2]
              · cases h
            · cases h
          · cases h
        · cases ht
      · cases ht
    · cases ht
  · cases ht
theorem aop_okX {P : Program} {N ch : Nat} {s : St} {o : Oper} {ao : AOp} {r : TV} {σ' : Slots} (ht : trX0 P ch o = some ao) (h : aop s.ρ s.σ ao = some (r, σ')) : OpOk P N o s r σ' := by
  obtain ⟨d, op, ty, ps, af, g⟩ := o
  unfold trX0 at ht
  split at ht
  · rename_i t x lo0 hi0 mx0 hop
    simp only at hop; subst hop
    split at ht
    · exact aop_okL ht h
    exact aop_okX1 ht h
  · rename_i c hop
    simp only at hop; subst hop
    obtain ⟨callee, args, argTypes⟩ := c
    split at ht
    · simp only at ht
      split at ht
      · rename_i x t h1 h2
        have e1 : args = #[x] := by apply Array.ext'; simpa using h1
        have e2 : argTypes = #[t] := by apply Array.ext'; simpa using h2
        subst e1; subst e2
        split at ht
        · rename_i e he
          split at ht
          · rename_i i ag x' hi1 hag tx
            split at ht
            · rename_i z hz
              split at ht
              · rename_i y hy
                split at ht
                · rename_i hc; injection ht with ht; subst ht
                  simp only [aop] at h
                  split at h
                  · rename_i k n z' j m fu hx
                    split at h
                    · rename_i n' it hk
                      split at h
                      · rename_i e' z2 cs htc
                        split at h
                        · rename_i hcc
                          obtain ⟨rfl, rfl, rfl, hb⟩ := hcc
                          simp at h; obtain ⟨rfl, rfl⟩ := h
                          exact ok_clrL he hi1 hz (zeroElV_cells hy) hc.1 hc.2 tx hx hk htc hb
                        · cases h
                      · cases h
                    · cases h
                  · rename_i p m hx
                    split at h
                    · rename_i m' k n z' j hp
                      split at h
                      · rename_i n' it hk
                        split at h
                        · rename_i e' z2 cs it' htc hit
                          split at h
                          · rename_i hcc
                            obtain ⟨rfl, rfl, rfl, rfl⟩ := hcc
                            simp at h; obtain ⟨rfl, rfl⟩ := h
                            exact ok_clr he hi1 hz (zeroElV_cells hy) hc.1 hc.2 tx hx hp hk htc hit
                          · cases h
                        · cases h
                      · cases h
                    · cases h
                  · cases h
                · cases ht
              · cases ht
            · cases ht
          · cases ht
        · cases ht
      · cases ht
    split at ht
    · simp only at ht
      split at ht
      · rename_i x y t t' h1 h2
        have e1 : args = #[x, y] := by apply Array.ext'; simpa using h1
        have e2 : argTypes = #[t, t'] := by apply Array.ext'; simpa using h2
        subst e1; subst e2
        split at ht
        · rename_i htt; subst htt
          split at ht
          · rename_i e he
            split at ht
            · rename_i i x' y' hi1 tx tyy
              injection ht with ht; subst ht
              simp only [aop] at h
              split at h
              · rename_i k n z hi k2 n2 z2 j m fu hx hy
                split at h
                · rename_i n' it hk
                  split at h
                  · rename_i e' sz' cs it' htc hit
                    split at h
                    · rename_i hc
                      obtain ⟨rfl, rfl, rfl, hz, rfl⟩ := hc
                      simp at h; obtain ⟨rfl, rfl⟩ := h
                      exact ok_appD he hi1 tx tyy hx hy hk htc hz hit
                    · cases h
                  · cases h
                · cases h
              · cases h
            · cases ht
          · cases ht
        · cases ht
      · cases ht
    · cases ht
  · rename_i t x hop
    simp only at hop; subst hop
    split at ht
    · cases ht
    · rename_i dd hne hd
      split at ht
      · rename_i x' tx; injection ht with ht; subst ht
        simp only [aop] at h
        split at h
        · rename_i y hx
          injection h with h; injection h with h1 h2; subst h1; subst h2
          exact ok_mkif ⟨dd, hd, fun m e => hne m e⟩ tx hx
        · cases h
      · cases ht
    · cases ht
  · rename_i x xt t hop
    simp only at hop; subst hop
    split at ht
    · cases ht
    · rename_i dd hne hd
      split at ht
      · rename_i i x' hi1 tx
        split at ht
        · rename_i z hz
          split at ht
          · rename_i zi hzi; injection ht with ht; subst ht
            simp only [aop] at h
            split at h
            · rename_i u v hx
              injection h with h; injection h with h1 h2; subst h1; subst h2
              exact ok_tas ⟨dd, hd, fun m e => hne m e⟩ hi1 hz (fun I w => ivC_rel hzi I w) tx hx (.inl ⟨u, v, rfl, rfl⟩)
            · rename_i hx
              injection h with h; injection h with h1 h2; subst h1; subst h2
              exact ok_tas ⟨dd, hd, fun m e => hne m e⟩ hi1 hz (fun I w => ivC_rel hzi I w) tx hx (.inr ⟨rfl, rfl⟩)
            · cases h
          · cases ht
        · cases ht
      · cases ht
    · cases ht
  · rename_i op t x t2 hop
    simp only at hop; subst hop
    split at ht
    · rename_i ng ms x' hop hu tx; injection ht with ht; subst ht
      simp only [aop] at h
      split at h
      · rename_i hx
        injection h with h; injection h with h1 h2; subst h1; subst h2
        exact ok_eqnil hu hop tx hx (.inl ⟨rfl, rfl⟩)
      · rename_i u v hx
        injection h with h; injection h with h1 h2; subst h1; subst h2
        exact ok_eqnil hu hop tx hx (.inr ⟨u, v, rfl, rfl⟩)
      · cases h
    · cases ht
  · split at ht
    · injection ht with ht; subst ht; simp [aop] at h
    · cases ht
  · rename_i t x y hop
    simp only at hop; subst hop
    split at ht
    · split at ht
      · rename_i i x' y' hi tx tyy; injection ht with ht; subst ht
        simp only [aop] at h
        split at h
        · rename_i hsep
          cases x' with
          | c _ => simp [sepT] at hsep
          | t m =>
          cases y' with
          | c _ => simp [sepT] at hsep
          | t n =>
          have hne : n ≠ m := by rintro rfl; simp [sepT] at hsep
          split at h
          · rename_i p v hp hv
            split at h
            · rename_i z σ1 hz
              refine OpOk.sealed (n := n) hv hz ?_
              have hp' : ev ((n, TV.iv z) :: s.ρ) (.t m) = some p := by simp only [ev, lk, if_neg hne]; exact hp
              have hv' : ev ((n, TV.iv z) :: s.ρ) (.t n) = some (.iv z) := by simp only [ev, lk, if_true]
              split at h
              · rename_i σ2 h1; simp at h; obtain ⟨rfl, rfl⟩ := h
                exact ok_store (s := { ρ := (n, .iv z) :: s.ρ, σ := σ1 }) ⟨i, hi, rfl⟩ tx tyy hp' hv' h1
              · split at h
                · rename_i σ2 h1; simp at h; obtain ⟨rfl, rfl⟩ := h
                  exact ok_storeT (s := { ρ := (n, .iv z) :: s.ρ, σ := σ1 }) ⟨i, hi, rfl⟩ tx tyy hp' hv' h1
                · cases h
            · cases h
          · cases h
        · cases h
      · cases ht
    · cases ht
  · cases ht

theorem aop_ok {P : Program} {N ch : Nat} {s : St} {o : Oper} {ao : AOp} {r : TV} {σ' : Slots} (ht : trOp P ch o = some ao) (h : aop s.ρ s.σ ao = some (r, σ')) : OpOk P N o s r σ' := by
  unfold trOp at ht
  split at ht
  · rename_i r' hr
    injection ht with ht; subst ht
    exact aop_okX hr h
  · split at ht
    · rename_i r' hr
      split at ht
      · injection ht with ht; subst ht
        exact aop_ok0 hr h
      · injection ht with ht; subst ht; simp [aop] at h
    · split at ht
      · cases ht
      · injection ht with ht; subst ht; simp [aop] at h

end Go.Proofs.YtdlgenppdgkacaaGreatDoor.Ag
