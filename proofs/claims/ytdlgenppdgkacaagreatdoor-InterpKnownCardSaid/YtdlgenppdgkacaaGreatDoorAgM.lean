/- Lists whose cells may be the call's own: read, written, made longer; maps; functions made. -/
import Derived.Test.YtdlgenppdgkacaaGreatDoorAg11b
set_option linter.unusedVariables false
set_option linter.unusedSimpArgs false
namespace Go.Proofs.YtdlgenppdgkacaaGreatDoor.Ag
open Go.RowKit (Below)

/-- A list's cells, whatever they are. -/
def tcells : Item → Option (Nat × Nat × List TV)
  | .list e sz xs => some (e, sz, (flat xs).map .iv)
  | .tl e sz cs => some (e, sz, cs)
  | _ => none
theorem tcells_rel {K : Kr} {w : World} {it : Item} {v : Value} {e sz : Nat} {cs : List TV} (h : tcells it = some (e, sz, cs)) (r : IRel K w it v) :
    ∃ m cvs, cs.length = m * sz ∧ w.ownsRow 0 e sz v m cvs ∧ ∀ (q : Nat) (c : TV) (u : Value), cs[q]? = some c → cvs[q]? = some u → TRel K w c u ∧ u.oneCell' = true := by
  cases it with
  | list e' sz' xs =>
    simp only [tcells, Option.some.injEq, Prod.mk.injEq] at h
    obtain ⟨rfl, rfl, rfl⟩ := h
    obtain ⟨cvs, how, hss, hr⟩ := r
    refine ⟨xs.length, cvs, by simp [flat_len (fun x hx => (hss x hx).1)], how, ?_⟩
    intro q c u hc hu
    simp only [List.getElem?_map, Option.map_eq_some_iff] at hc
    obtain ⟨y, hy, rfl⟩ := hc
    obtain ⟨x, hx, hcx⟩ := List.mem_flatMap.1 (List.mem_of_getElem? hy)
    exact ⟨.iv _ _ (hr q y u hy hu), ((hr q y u hy hu).oneCell ((hss x hx).2 _ hcx)).2⟩
  | tl e' sz' cs' =>
    simp only [tcells, Option.some.injEq, Prod.mk.injEq] at h
    obtain ⟨rfl, rfl, rfl⟩ := h
    obtain ⟨m, cvs, _, hl, how, hr⟩ := r
    exact ⟨m, cvs, hl, how, hr⟩
  | _ => simp [tcells] at h
theorem tcells_own {it : Item} {v : Value} {e sz : Nat} {cs : List TV} (h : tcells it = some (e, sz, cs)) : own it v = v.ownBlock := by
  cases it <;> simp [tcells] at h <;> cases v <;> rfl
theorem tl_own {v : Value} {e sz : Nat} {cs : List TV} : own (.tl e sz cs) v = v.ownBlock := by cases v <;> rfl
theorem list_own {v : Value} {e sz : Nat} {cs : List IV} : own (.list e sz cs) v = v.ownBlock := by cases v <;> rfl

section
variable {P : Program} {N : Nat} {s : St} {d : Option Tmp} {ty : TypeId} {ps : String} {af : Array Edge} {g : Option (Nat × Bool)}

/-! ### elements of a list of the call's own -/
def idxL (σ : Slots) (sz : Nat) (n : Int) (k m : Nat) : Option TV :=
  match lk σ k with
  | some (m', it) => if m = m' then match tcells it with
      | some (_, sz', cs) => if sz = sz' ∧ 0 ≤ n ∧ n.toNat * sz + sz ≤ cs.length ∧ 0 < sz then some (.el k m sz n.toNat 0) else none
      | none => none
    else none
  | none => none
theorem ok_idxL {t e : TypeId} {i : TypeInfo} {x y : Operand} {x' y' : AOpd} {k m : Nat} {kn : IntKind} {n : Int} {r : TV} (ht : P.underlying t = some (.slice e)) (hi : P.info? e = some i)
    (tx : trOpd x = some x') (tyy : trOpd y = some y') (hx : ev s.ρ x' = some (.lst k m)) (hy : ev s.ρ y' = some (.iv (.int kn n))) (hr : idxL s.σ i.size n k m = some r) :
    OpOk P N ⟨d, .indexAddr t x y, ty, ps, af, g⟩ s r s.σ := by
  refine .pure fun K w0 w hs => ?_
  have h1 := ev_rel hs tx hx
  have h2 := ev_rel hs tyy hy
  unfold idxL at hr
  split at hr
  · rename_i m' it hk
    split at hr
    · rename_i hm; subst hm
      split at hr
      · rename_i e' sz' cs htc
        split at hr
        · rename_i hc
          obtain ⟨rfl, h0, hle, hsz⟩ := hc
          injection hr with hr; subst hr
          obtain ⟨len, cvs, hl, how, hcs⟩ := tcells_rel htc (hs.slots.rel k m _ hk).2
          cases h2 with
          | iv _ _ h2 =>
          generalize hcv : w0.eval x = cv at h1
          generalize hcy : w0.eval y = cy at h2
          cases h2
          cases h1 with
          | lst _ _ hn =>
          have hlt : n < (len : Int) := by
            have : n.toNat < len := by
              rcases Nat.lt_or_ge n.toNat len with h | h
              · exact h
              · have : len * i.size ≤ n.toNat * i.size := Nat.mul_le_mul_right _ h
                omega
            omega
          rcases how.2 with ⟨h3, h4⟩ | ⟨gb, cap, cur, h3, _⟩
          · omega
          · refine ⟨.pointer (some ⟨gb, 0 + n.toNat * i.size, none⟩), ?_, ?_⟩
            · rw [h3] at hcv
              simp only [execOp, hcv, hcy, Sem.run_bind, run_indexAddr ht hi kn n gb 0 len cap h0 hlt w]; rfl
            · have := TRel.el (w := w) k m i.size n.toNat 0 gb len cap hn h3
              rw [Nat.zero_add]; simpa using this
        · cases hr
      · cases hr
    · cases hr
  · cases hr

/-! ### loads of cells -/
def loadT (σ : Slots) (sz : Nat) (ag : Bool) : TV → Option TV
  | .el k n z i off => match lk σ k with
    | some (n', .tl _ z' cs) => if n = n' ∧ z = z' ∧ off + sz ≤ z then partTV cs (i * z + off) sz ag else none
    | _ => none
  | _ => none
theorem ok_loadT {t : TypeId} {sz : Nat} {ag : Bool} {x : Operand} {x' : AOpd} {v r : TV} (hsz : sizeIs P t sz) (ha : aggIs P t ag) (tx : trOpd x = some x') (hx : ev s.ρ x' = some v) (h : loadT s.σ sz ag v = some r) :
    OpOk P N ⟨d, .load t x, ty, ps, af, g⟩ s r s.σ := by
  refine .pure fun K w0 w hs => ?_
  have hrel := ev_rel hs tx hx
  unfold loadT at h
  split at h
  · rename_i k n z i off
    split at h
    · rename_i n' e z' cs hk
      split at h
      · rename_i hc
        obtain ⟨rfl, rfl, hle⟩ := hc
        obtain ⟨len, cvs, h0, hl, how, hr⟩ := (hs.slots.rel k n _ hk).2
        generalize hcv : w0.eval x = cv at hrel
        cases hrel with
        | el _ _ _ _ _ b len' cap hn' hA =>
        unfold partTV at h
        split at h
        · rename_i hl2
          rcases how.2 with ⟨h1, h2⟩ | ⟨g', cap', cur, h1, _, hh, hle', _, hcs, htake⟩
          · rw [hA] at h1; cases h1
          rw [hA] at h1
          injection h1 with h1 h2 h3; injection h1 with h1; injection h1 with h1
          subst h1
          have hcl : cvs.length = cs.length := by rw [how.1, hl]
          have hcell : ∀ q, q < sz → w.cell? ⟨b, i * z + off + q, none⟩ = some (cvs.getD (i * z + off + q) undef) := by
            intro q hq
            have hlt : i * z + off + q < cvs.length := by omega
            have h4 : cvs[i * z + off + q]? = some (cvs.getD (i * z + off + q) undef) := by simp [List.getD, hlt]
            have h5 : cur.toList[i * z + off + q]? = some (cvs.getD (i * z + off + q) undef) := by
              rw [← h4, ← htake, List.getElem?_take_of_lt (by rw [← how.1]; exact hlt)]
            simp only [Array.getElem?_toList] at h5
            simp [World.cell?, hh, h5]
          have run : ag = false → sz = 1 → True := fun _ _ => trivial
          cases ag
          · simp at h
            obtain ⟨h1, h⟩ := h
            refine ⟨cvs.getD (i * z + off) undef, ?_, ?_⟩
            · simp only [execOp, hcv, Instr.loadAt, Instr.sureAddr, Sem.run_bind, Sem.run_pure, Result.andThen_ok, run_loadVar hsz ha (fun _ => h1) b (i * z + off) (fun q => cvs.getD (i * z + off + q) undef) w hcell]
              simp
            · have hlt : i * z + off < cvs.length := by omega
              exact (hr (i * z + off) r _ h (by simp [List.getD, hlt])).1
          · simp at h; subst h
            refine ⟨.agg ((List.range sz).map fun q => cvs.getD (i * z + off + q) undef).toArray, ?_, ?_⟩
            · simp only [execOp, hcv, Instr.loadAt, Instr.sureAddr, Sem.run_bind, Sem.run_pure, Result.andThen_ok, run_loadVar hsz ha (by simp) b (i * z + off) (fun q => cvs.getD (i * z + off + q) undef) w hcell]
              simp
            · refine mkAgg_rel (by simp; omega) ?_
              intro q c v hc hv
              obtain ⟨hc, hq⟩ := take_drop_at hc
              have hlt : i * z + off + q < cvs.length := by omega
              simp [hq] at hv
              subst hv
              exact hr _ c _ hc (by simp [List.getD, hlt])
        · cases h
      · cases h
    · cases h
  · cases h

/-! ### stores -/
/-- An element out of its cells. -/
def unC : IV → List IV → IV
  | .agg _, cs => .agg cs
  | _, cs => cs.headD .nil
/-- A list with cells of one element written. -/
def putItem (it : Item) (z i off : Nat) (vs : List TV) : Option Item :=
  match it with
  | .list e _ xs => match ivsOf vs, xs[i]? with
    | some ys, some x => some (.list e z (xs.set i (unC x (splice x.cells off ys))))
    | none, some _ => some (.tl e z (splice ((flat xs).map .iv) (i * z + off) vs))
    | _, none => none
  | .tl e _ cs => some (.tl e z (splice cs (i * z + off) vs))
  | _ => none
def storeT (σ : Slots) (sz : Nat) (p v : TV) : Option Slots :=
  match p with
  | .el k n z i off => match lk σ k with
    | some (n', it) => if n = n' then match tcells it, cellsOf σ v with
        | some (e, z', cs), some vs => if z = z' ∧ 0 < z ∧ vs.length = sz ∧ off + sz ≤ z ∧ i * z + z ≤ cs.length then match putItem it z i off vs with
            | some it' => some (upd σ k (n, it'))
            | none => none
          else none
        | _, _ => none
      else none
    | none => none
  | _ => none

theorem take_splice {α : Type} {l m : List α} {off k : Nat} (h : off + m.length ≤ k) (hk : k ≤ l.length) : (splice l off m).take k = splice (l.take k) off m := by
  apply List.ext_getElem?
  intro q
  rw [splice_get (by simp; omega)]
  by_cases hq : q < k
  · rw [List.getElem?_take_of_lt hq, splice_get (by omega)]
    split
    · rfl
    · rw [List.getElem?_take_of_lt hq]
  · rw [List.getElem?_eq_none (by simp; omega), if_neg (by omega), List.getElem?_eq_none (by simp; omega)]
theorem unC_cells {x : IV} {cs : List IV} (h : x.cells.length = cs.length) (ho : ∀ c ∈ x.cells, c.one = true) (h1 : ∀ c ∈ cs, c.one = true) : (unC x cs).cells = cs ∧ ∀ c ∈ (unC x cs).cells, c.one = true := by
  have key : (unC x cs).cells = cs := by
    unfold unC
    split
    · rfl
    · rename_i hne
      have hx : x.cells = [x] := by cases x <;> first | rfl | exact absurd rfl (hne _)
      rw [hx] at h
      match cs, h, h1 with
      | [c], _, h1 =>
        have := h1 c (by simp)
        cases c <;> first | rfl | simp [IV.one] at this
  exact ⟨key, fun c hc => h1 c (by rw [key] at hc; exact hc)⟩
theorem flat_set {z : Nat} : ∀ {xs : List IV} {i off : Nat} {x y : IV} {ys : List IV}, (∀ x ∈ xs, x.cells.length = z) → xs[i]? = some x → off + ys.length ≤ z → y.cells = splice x.cells off ys →
    flat (xs.set i y) = splice (flat xs) (i * z + off) ys
  | [], i, off, x, y, ys, hs, hx, hle, hy => by simp at hx
  | a :: xs, 0, off, x, y, ys, hs, hx, hle, hy => by
    simp at hx; subst hx
    have hl := hs a (by simp)
    simp only [List.set_cons_zero, flat, List.flatMap_cons, hy, splice, Nat.zero_mul, Nat.zero_add]
    rw [List.take_append_of_le_length (by omega), List.drop_append_of_le_length (by omega)]
    simp
  | a :: xs, i + 1, off, x, y, ys, hs, hx, hle, hy => by
    simp at hx
    have hl := hs a (by simp)
    have ih := flat_set (xs := xs) (fun b hb => hs b (by simp [hb])) hx hle hy
    simp only [flat] at ih
    simp only [List.set_cons_succ, flat, List.flatMap_cons, ih, splice]
    have e1 : (i + 1) * z + off = a.cells.length + (i * z + off) := by rw [hl, Nat.add_mul]; omega
    rw [e1, List.take_length_add_append, show a.cells.length + (i * z + off) + ys.length = a.cells.length + (i * z + off + ys.length) by omega, List.drop_length_add_append]
    simp

theorem ok_storeT {t : TypeId} {sz : Nat} {x y : Operand} {x' y' : AOpd} {p v : TV} {σ' : Slots} (hsz : sizeIs P t sz) (tx : trOpd x = some x') (tyy : trOpd y = some y')
    (hx : ev s.ρ x' = some p) (hy : ev s.ρ y' = some v) (h : storeT s.σ sz p v = some σ') : OpOk P N ⟨d, .store t x y, ty, ps, af, g⟩ s .dead σ' := by
  intro K a w hs
  have hp := ev_rel hs tx hx
  have hv := ev_rel hs tyy hy
  unfold storeT at h
  split at h
  · rename_i k n z i off
    split at h
    · rename_i n' it hk
      split at h
      · rename_i hn; subst hn
        split at h
        · rename_i e z' cs vs htc hvs
          split at h
          · rename_i hl
            obtain ⟨rfl, hz0, hl1, hl2, hl3⟩ := hl
            split at h
            · rename_i it' hput
              injection h with h; subst h
              obtain ⟨c1, c2⟩ := cellsOf_rel hs.slots hv hvs
              have hir := (hs.slots.rel k n _ hk).2
              obtain ⟨m, cvs, hcl, how, hr⟩ := tcells_rel htc hir
              generalize hcv : a.eval x = cv at hp
              cases hp with
              | el _ _ _ _ _ b len cap hn' hA =>
              have hcvl : cvs.length = cs.length := by rw [how.1, hcl]
              rcases how.2 with ⟨h1, _⟩ | ⟨gb, cap', cur, h1, hb0, hh, hle, hmx, hcs, htake⟩
              · rw [hA] at h1; cases h1
              have hA' := h1
              rw [hA] at h1
              injection h1 with h1 h2 h3; injection h1 with h1; injection h1 with h1
              subst h1
              have hmc : m * z ≤ cur.size := by rw [hcs]; exact Nat.mul_le_mul_right _ hle
              have hst := run_storeCells_at P b (i * z + off) e (a.eval y).cells.toList 0 cur w hh (by simp; omega) (fun u hu => by
                obtain ⟨q, hq⟩ := List.getElem?_of_mem hu
                have hlt : q < vs.length := by have := (List.getElem?_eq_some_iff.1 hq).1; simp at this; omega
                exact (c2 q vs[q] u (by simp [hlt]) (by simpa using hq)).2)
              simp only [Nat.add_zero] at hst
              have e1 : (a.eval y).cells.toList.length = vs.length := by simpa using c1
              have hrun : (execOp a.eval ⟨d, .store t x y, ty, ps, af, g⟩).run P w = .ok .skip (w.setRow b (splice cur.toList (i * z + off) (a.eval y).cells.toList).toArray) := by
                simp only [execOp, hcv, Instr.storeAt, Instr.sureAddr, storeVar, Sem.run_bind, Sem.run_pure, Result.andThen_ok, run_sizeOf hsz]
                rw [if_neg (by omega)]
                simp only [hst, splice, Result.andThen_ok, Sem.run_pure]
              -- the cells behind the store, in general
              have key : ∀ (K' : Kr), K.Le w K' (w.setRow b (splice cur.toList (i * z + off) (a.eval y).cells.toList).toArray) →
                  (w.setRow b (splice cur.toList (i * z + off) (a.eval y).cells.toList).toArray).ownsRow 0 e z (K.A k n) m (splice cvs (i * z + off) (a.eval y).cells.toList) ∧
                  ∀ (q : Nat) (c : TV) (u : Value), (splice cs (i * z + off) vs)[q]? = some c → (splice cvs (i * z + off) (a.eval y).cells.toList)[q]? = some u → TRel K' (w.setRow b (splice cur.toList (i * z + off) (a.eval y).cells.toList).toArray) c u ∧ u.oneCell' = true := by
                intro K' le
                refine ⟨⟨?_, .inr ⟨b, cap', (splice cur.toList (i * z + off) (a.eval y).cells.toList).toArray, hA', hb0, setRow_heap w b cur _ e (0, 0) hh, hle, hmx, ?_, ?_⟩⟩, ?_⟩
                · simp [splice]; omega
                · simp [splice]; omega
                · rw [← htake]; exact take_splice (by omega) (by simp; omega)
                · intro q c u hc hu
                  rw [splice_get (by omega)] at hc
                  rw [splice_get (by omega), e1] at hu
                  split at hc
                  · rename_i hq
                    rw [if_pos hq] at hu
                    have := c2 (q - (i * z + off)) c u hc (by simpa using hu)
                    exact ⟨this.1.mono le, this.2⟩
                  · rename_i hq
                    rw [if_neg hq] at hu
                    have := hr q c u hc hu
                    exact ⟨this.1.mono le, this.2⟩
              have hoB : ∀ {itx : Item} {ex zx : Nat} {cx : List TV}, tcells itx = some (ex, zx, cx) → own itx (K.A k n) = some b := by
                intro itx ex zx cx hx; rw [tcells_own hx, hA']; rfl
              have fin : tcells it' = some (e, z, splice cs (i * z + off) vs) → (∀ (K' : Kr), K.Le w K' (w.setRow b (splice cur.toList (i * z + off) (a.eval y).cells.toList).toArray) → IRel K' (w.setRow b (splice cur.toList (i * z + off) (a.eval y).cells.toList).toArray) it' (K.A k n)) →
                  ∃ (n_1 : Next) (K' : Kr) (w' : World) (u : Value), (execOp a.eval ⟨d, .store t x y, ty, ps, af, g⟩).run P w = .ok n_1 w' ∧ (n_1 = .value u ∨ n_1 = .skip ∧ u = undef) ∧ TRel K' w' .dead u ∧ SlotsRel K' (upd s.σ k (n, it')) w' ∧ Evo K s.σ w K' (upd s.σ k (n, it')) w' := by
                intro ht' hi'
                obtain ⟨t1, t2⟩ := hs.slots.turn (w' := w.setRow b (splice cur.toList (i * z + off) (a.eval y).cells.toList).toArray) k n it it' hk (some b) (setRow_grew w b _)
                  (fun b' hb => by simp at hb; subst hb; exact hoB htc) (fun b' hb => by rw [hoB htc]; rw [hoB ht'] at hb; exact hb) (hi' K)
                exact ⟨_, _, _, undef, hrun, .inr ⟨rfl, rfl⟩, .dead, t1, t2⟩
              unfold putItem at hput
              split at hput
              · rename_i e' z'' xs
                simp only [tcells, Option.some.injEq, Prod.mk.injEq] at htc
                obtain ⟨h91, h92, h93⟩ := htc
                subst e'; subst z''; subst h93
                obtain ⟨cvs', how', hss, hr'⟩ := hir
                split at hput
                · rename_i ys x0 hys hx0
                  injection hput with hput; subst hput
                  have hvi := ivsOf_rel (K := K) (w := w) hys
                  have hx0l := hss x0 (List.mem_of_getElem? hx0)
                  have hyl : ys.length = vs.length := by rw [hvi]; simp
                  have hyone : ∀ c ∈ ys, c.one = true := by
                    intro c hc
                    obtain ⟨q, hq⟩ := List.getElem?_of_mem hc
                    have hlt : q < ys.length := (List.getElem?_eq_some_iff.1 hq).1
                    have hlt' : q < (a.eval y).cells.size := by omega
                    have := c2 q (.iv c) (a.eval y).cells[q] (by rw [hvi]; simp [hq]) (by simp [hlt'])
                    cases this.1 with
                    | iv _ _ h9 => exact one_of_rel h9 this.2
                  have hspl : (splice x0.cells off ys).length = x0.cells.length := by simp [splice]; omega
                  have hspo : ∀ c ∈ splice x0.cells off ys, c.one = true := by
                    intro c hc
                    simp only [splice, List.mem_append] at hc
                    rcases hc with (hc | hc) | hc
                    · exact hx0l.2 c (List.mem_of_mem_take hc)
                    · exact hyone c hc
                    · exact hx0l.2 c (List.mem_of_mem_drop hc)
                  obtain ⟨u1, u2⟩ := unC_cells hspl.symm hx0l.2 hspo
                  have hfl : flat (xs.set i (unC x0 (splice x0.cells off ys))) = splice (flat xs) (i * z + off) ys := flat_set (fun x hx => (hss x hx).1) hx0 (by omega) u1
                  have htc' : tcells (.list e z (xs.set i (unC x0 (splice x0.cells off ys)))) = some (e, z, splice ((flat xs).map .iv) (i * z + off) vs) := by
                    simp only [tcells, hfl, hvi]
                    simp [splice, List.map_take, List.map_drop]
                  refine fin htc' fun K' le => ?_
                  obtain ⟨k1, k2⟩ := key K' le
                  refine ⟨splice cvs (i * z + off) (a.eval y).cells.toList, ?_, ?_, ?_⟩
                  · have hm : m = xs.length := by
                      have : (flat xs).length = xs.length * z := flat_len (fun x hx => (hss x hx).1)
                      simp only [List.length_map] at hcl
                      rw [this] at hcl
                      exact (Nat.eq_of_mul_eq_mul_right hz0 hcl).symm
                    rw [List.length_set, ← hm]; exact k1
                  · intro x1 hx1
                    rcases List.mem_or_eq_of_mem_set hx1 with h8 | rfl
                    · exact hss x1 h8
                    · exact ⟨by rw [u1, hspl]; exact hx0l.1, u2⟩
                  · intro q c u hq hu
                    have := k2 q (.iv c) u (by rw [hvi]; rw [hfl] at hq; simp only [splice] at hq ⊢; rw [← List.map_take, ← List.map_drop, ← List.map_append, List.length_map, ← List.map_append, List.getElem?_map, hq]; rfl) hu
                    cases this.1 with
                    | iv _ _ h9 => exact h9
                · rename_i x0 hys hx0
                  injection hput with hput; subst hput
                  refine fin rfl fun K' le => ?_
                  obtain ⟨k1, k2⟩ := key K' le
                  exact ⟨m, _, hz0, by simp [splice] at hcl hl3 ⊢; omega, k1, k2⟩
                · cases hput
              · rename_i e' z'' cs'
                injection hput with hput; subst hput
                simp only [tcells, Option.some.injEq, Prod.mk.injEq] at htc
                obtain ⟨h91, h92, h93⟩ := htc
                subst e'; subst z''; subst cs'
                refine fin rfl fun K' le => ?_
                obtain ⟨k1, k2⟩ := key K' le
                exact ⟨m, _, hz0, by simp [splice]; omega, k1, k2⟩
              · cases hput
            · cases h
          · cases h
        · cases h
      · cases h
    · cases h
  · cases h
end
end Go.Proofs.YtdlgenppdgkacaaGreatDoor.Ag
