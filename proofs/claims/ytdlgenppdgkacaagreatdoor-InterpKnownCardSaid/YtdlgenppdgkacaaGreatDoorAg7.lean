/- Fields, loads, stores, boxes. -/
import Derived.Test.YtdlgenppdgkacaaGreatDoorAg6
set_option linter.unusedVariables false
set_option linter.unusedSimpArgs false
namespace Go.Proofs.YtdlgenppdgkacaaGreatDoor.Ag
open Go.RowKit (Below)

/-- A type's size, and whether its values are of several cells. -/
def sizeIs (P : Program) (t : TypeId) (sz : Nat) : Prop := ∃ i, P.info? t = some i ∧ i.size = sz
def aggIs (P : Program) (t : TypeId) (ag : Bool) : Prop := ∃ d, P.underlying t = some d ∧ (match d with | .struct _ => ag = true | .array _ _ => ag = true | _ => ag = false)

theorem run_sizeOf {P : Program} {t : TypeId} {sz : Nat} (h : sizeIs P t sz) (w : World) : (sizeOf t).run P w = .ok sz w := by
  obtain ⟨i, hi, rfl⟩ := h
  simp [sizeOf, typeInfo, hi]
theorem run_isAgg {P : Program} {t : TypeId} {ag : Bool} (h : aggIs P t ag) (w : World) : (isAgg t).run P w = .ok ag w := by
  obtain ⟨d, hd, h⟩ := h
  cases d <;> simp at h <;> subst h <;> simp [isAgg, run_underlying' hd]

/-- The part of cells from 'off' on: one cell, or an aggregate. -/
def partIV (cs : List IV) (off sz : Nat) (ag : Bool) : Option IV :=
  if off + sz ≤ cs.length then
    if ag then some (.agg ((cs.drop off).take sz)) else if sz = 1 then cs[off]? else none
  else none
def partTV (cs : List TV) (off sz : Nat) (ag : Bool) : Option TV :=
  if off + sz ≤ cs.length then
    if ag then some (mkAgg ((cs.drop off).take sz)) else if sz = 1 then cs[off]? else none
  else none

theorem partIV_cells {cs : List IV} {off sz : Nat} {ag : Bool} {z : IV} (h : partIV cs off sz ag = some z) (ho : ∀ c ∈ cs, c.one = true) :
    z.cells = (cs.drop off).take sz ∧ z.cells.length = sz := by
  unfold partIV at h
  split at h
  · rename_i hl
    split at h
    · injection h with h; subst h
      exact ⟨rfl, by simp [IV.cells]; omega⟩
    · split at h
      · rename_i h1; subst h1
        have hm : z ∈ cs := List.mem_of_getElem? h
        have hz := ho z hm
        have hc : z.cells = [z] := by cases z <;> first | rfl | simp [IV.one] at hz
        have hlt : off < cs.length := by omega
        have hd : (cs.drop off).take 1 = [z] := by
          rw [List.drop_eq_getElem_cons hlt, List.take_succ_cons, List.take_zero]
          have : cs[off]? = some cs[off] := by simp [hlt]
          rw [this] at h; injection h with h; rw [h]
        exact ⟨by rw [hc, hd], by rw [hc]; rfl⟩
      · cases h
  · cases h

theorem take_drop_at {α : Type} {cs : List α} {off sz q : Nat} {c : α} (h : ((cs.drop off).take sz)[q]? = some c) : cs[off + q]? = some c ∧ q < sz := by
  have hq : q < sz := by
    have := (List.getElem?_eq_some_iff.1 h).1
    simp at this; omega
  rw [List.getElem?_take_of_lt hq, List.getElem?_drop] at h
  exact ⟨h, hq⟩

section
variable {P : Program} {N : Nat} {s : St} {d : Option Tmp} {ty : TypeId} {ps : String} {af : Array Edge} {g : Option (Nat × Bool)}

theorem run_fieldAt {t : TypeId} {fs : Array Field} {fi : Nat} {f : Field} {sz : Nat} (ht : P.underlying t = some (.struct fs)) (hf : fs[fi]? = some f) (hsz : sizeIs P f.type sz) (h0 : sz ≠ 0) (b off : Nat) (w : World) :
    (Instr.fieldAt t (.pointer (some ⟨b, off, none⟩)) fi).run P w = .ok (.pointer (some ⟨b, off + f.offset, none⟩)) w := by
  simp [Instr.fieldAt, run_underlying' ht, hf, Instr.sureAddr, fieldPlace, run_sizeOf hsz, h0, Addr.add_mid]

def fldA (off sz : Nat) (ag : Bool) : TV → Option TV
  | .iv (.ref (.agg cs)) => (partIV cs off sz ag).map fun z => .iv (.ref z)
  | .loc k n o => some (.loc k n (o + off))
  | .el k n z i o => some (.el k n z i (o + off))
  | _ => none

theorem ok_fldA {t : TypeId} {fs : Array Field} {fi : Nat} {f : Field} {sz : Nat} {ag : Bool} {x : Operand} {x' : AOpd} {v r : TV} (ht : P.underlying t = some (.struct fs)) (hf : fs[fi]? = some f)
    (hsz : sizeIs P f.type sz) (h0 : sz ≠ 0) (tx : trOpd x = some x') (hx : ev s.ρ x' = some v) (h : fldA f.offset sz ag v = some r) :
    OpOk P N ⟨d, .fieldAddr t x fi, ty, ps, af, g⟩ s r s.σ := by
  refine .pure fun K w0 w hs => ?_
  have h1 := ev_rel hs tx hx
  have run : ∀ b off, w0.eval x = .pointer (some ⟨b, off, none⟩) → (execOp w0.eval ⟨d, .fieldAddr t x fi, ty, ps, af, g⟩).run P w = .ok (.value (.pointer (some ⟨b, off + f.offset, none⟩))) w := by
    intro b off e
    simp only [execOp, e, Sem.run_bind, run_fieldAt ht hf hsz h0 b off w]; rfl
  unfold fldA at h
  split at h
  · rename_i cs
    simp only [Option.map_eq_some_iff] at h
    obtain ⟨z, hz, rfl⟩ := h
    cases h1 with
    | iv _ _ h1 =>
    generalize hcv : w0.eval x = cv at h1
    cases h1 with
    | ref _ b off cv hI hm ho hr =>
      obtain ⟨hc, hl⟩ := partIV_cells hz ho
      refine ⟨_, run b off hcv, .iv _ _ (.ref z b (off + f.offset) (fun q => cv (f.offset + q)) hI ?_ ?_ ?_)⟩
      · intro q c hq
        rw [hc] at hq
        rw [Nat.add_assoc]
        exact hm _ c (take_drop_at hq).1
      · intro c hcm
        rw [hc] at hcm
        exact ho c (List.mem_of_mem_drop (List.mem_of_mem_take hcm))
      · intro q c hq
        rw [hc] at hq
        exact hr _ c (take_drop_at hq).1
  · rename_i k n o
    injection h with h; subst h
    generalize hcv : w0.eval x = cv at h1
    cases h1 with
    | loc _ _ _ b hn hA => exact ⟨_, run b o hcv, .loc k n (o + f.offset) b hn hA⟩
  · rename_i k n z i o
    injection h with h; subst h
    generalize hcv : w0.eval x = cv at h1
    cases h1 with
    | el _ _ _ _ _ b len cap hn hA => exact ⟨_, run b _ hcv, by rw [Nat.add_assoc]; exact .el k n z i (o + f.offset) b len cap hn hA⟩
  · cases h

/-- 'x.f' of a struct that is a value. -/
def fldV (off sz : Nat) (ag : Bool) : TV → Option TV
  | .iv (.agg cs) => (partIV cs off sz ag).map .iv
  | .agg cs => partTV cs off sz ag
  | _ => none

theorem run_part {t : TypeId} {sz : Nat} {ag : Bool} (hsz : sizeIs P t sz) (ha : aggIs P t ag) (vs : Array Value) (off : Nat) (w : World) (v : Value) (h : if ag then v = .agg (vs.extract off (off + sz)) else vs[off]? = some v) :
    (part t vs off).run P w = .ok v w := by
  cases ag
  · simp at h
    simp [part, run_isAgg ha, h]
  · simp at h; subst h
    simp [part, run_isAgg ha, run_sizeOf hsz]

theorem ok_fld {t : TypeId} {fs : Array Field} {fi : Nat} {f : Field} {sz : Nat} {ag : Bool} {x : Operand} {x' : AOpd} {v r : TV} (ht : P.underlying t = some (.struct fs)) (hf : fs[fi]? = some f)
    (hsz : sizeIs P f.type sz) (ha : aggIs P f.type ag) (tx : trOpd x = some x') (hx : ev s.ρ x' = some v) (h : fldV f.offset sz ag v = some r) :
    OpOk P N ⟨d, .field t x fi, ty, ps, af, g⟩ s r s.σ := by
  refine .pure fun K w0 w hs => ?_
  have h1 := ev_rel hs tx hx
  have run : ∀ vs v, w0.eval x = .agg vs → (if ag then v = .agg (vs.extract f.offset (f.offset + sz)) else vs[f.offset]? = some v) → (execOp w0.eval ⟨d, .field t x fi, ty, ps, af, g⟩).run P w = .ok (.value v) w := by
    intro vs v e hv
    simp [execOp, e, Instr.field, run_underlying' ht, hf, asAgg, run_part hsz ha vs f.offset w v hv]
  unfold fldV at h
  split at h
  · rename_i cs
    simp only [Option.map_eq_some_iff] at h
    obtain ⟨z, hz, rfl⟩ := h
    cases h1 with
    | iv _ _ h1 =>
    generalize hcv : w0.eval x = cv at h1
    cases h1 with
    | agg _ vs hn ho hr =>
      unfold partIV at hz
      split at hz
      · rename_i hl
        cases ag
        · simp at hz
          obtain ⟨h1, hz⟩ := hz
          subst h1
          have hlt : f.offset < vs.size := by omega
          exact ⟨vs[f.offset], run vs _ hcv (by simp [hlt]), .iv _ _ (hr _ z _ hz (by simp [hlt]))⟩
        · simp at hz; subst hz
          refine ⟨_, run vs _ hcv (by simp; rfl), .iv _ _ (.agg _ _ (by simp; omega) ?_ ?_)⟩
          · intro c hc; exact ho c (List.mem_of_mem_drop (List.mem_of_mem_take hc))
          · intro q c v hc hv
            obtain ⟨hc, hq⟩ := take_drop_at hc
            have : vs[f.offset + q]? = some v := by
              rw [Array.getElem?_extract] at hv
              split at hv
              · exact hv
              · cases hv
            exact hr _ c v hc this
      · cases hz
  · rename_i cs
    generalize hcv : w0.eval x = cv at h1
    cases h1 with
    | agg _ vs hn ho hr =>
      unfold partTV at h
      split at h
      · rename_i hl
        cases ag
        · simp at h
          obtain ⟨h1, h⟩ := h
          subst h1
          have hlt : f.offset < vs.size := by omega
          exact ⟨vs[f.offset], run vs _ hcv (by simp [hlt]), hr _ r _ h (by simp [hlt])⟩
        · simp at h; subst h
          refine ⟨_, run vs _ hcv (by simp; rfl), mkAgg_rel (by simp; omega) ?_⟩
          intro q c v hc hv
          obtain ⟨hc, hq⟩ := take_drop_at hc
          have : vs[f.offset + q]? = some v := by
            rw [Array.getElem?_extract] at hv
            split at hv
            · exact hv
            · cases hv
          exact ⟨hr _ c v hc this, ho v (Array.mem_of_getElem? this)⟩
      · cases h
  · cases h

/-! ### loads -/
def loadOf (σ : Slots) (sz : Nat) (ag : Bool) : TV → Option TV
  | .iv (.ref x) => if x.cells.length = sz then (partIV x.cells 0 sz ag).map .iv else none
  | .loc k n off => match lk σ k with
    | some (n', .box cs) => if n = n' then partTV cs off sz ag else none
    | _ => none
  | .el k n z i off => match lk σ k with
    | some (n', .list _ z' xs) => if n = n' ∧ z = z' then match xs[i]? with
        | some x => (partIV x.cells off sz ag).map .iv
        | none => none
      else none
    | _ => none
  | _ => none

theorem run_loadVar {t : TypeId} {sz : Nat} {ag : Bool} (hsz : sizeIs P t sz) (ha : aggIs P t ag) (h1 : ag = false → sz = 1) (b off : Nat) (cv : Nat → Value) (w : World) (h : ∀ q, q < sz → w.cell? ⟨b, off + q, none⟩ = some (cv q)) :
    (loadVar t ⟨b, off, none⟩).run P w = .ok (if ag then .agg ((List.range sz).map cv).toArray else cv 0) w := by
  have hc := run_loadCells (P := P) w ⟨b, off, none⟩ sz cv (fun q hq => by rw [Addr.add_mid]; exact h q hq)
  cases ag
  · have := h 0 (by rw [h1 rfl]; omega)
    simp only [Nat.add_zero] at this
    simp [loadVar, run_isAgg ha, this]
  · simp [loadVar, run_isAgg ha, run_sizeOf hsz, hc]

theorem load_rel {t : TypeId} {sz : Nat} {ag : Bool} {x : Operand} {x' : AOpd} {v r : TV} (hsz : sizeIs P t sz) (ha : aggIs P t ag) (tx : trOpd x = some x') (hx : ev s.ρ x' = some v) (h : loadOf s.σ sz ag v = some r) :
    ∀ K w0 w, SRel N K s w0 w → ∃ u, (execOp w0.eval ⟨d, .load t x, ty, ps, af, g⟩).run P w = .ok (.value u) w ∧ TRel K w r u := by
  intro K w0 w hs
  have hrel := ev_rel hs tx hx
  have run : ∀ b off cv, w0.eval x = .pointer (some ⟨b, off, none⟩) → (∀ q, q < sz → w.cell? ⟨b, off + q, none⟩ = some (cv q)) → (ag = false → sz = 1) →
      (execOp w0.eval ⟨d, .load t x, ty, ps, af, g⟩).run P w = .ok (.value (if ag then .agg ((List.range sz).map cv).toArray else cv 0)) w := by
    intro b off cv e hcv h1
    simp only [execOp, e, Instr.loadAt, Instr.sureAddr, Sem.run_bind, Sem.run_pure, Result.andThen_ok, run_loadVar hsz ha h1 b off cv w hcv]
  -- from cells without memory to what was loaded
  have fromIV : ∀ (cs : List IV) (off0 : Nat) (z : IV) (b off : Nat) (cv : Nat → Value), w0.eval x = .pointer (some ⟨b, off, none⟩) → partIV cs off0 sz ag = some z → (∀ c ∈ cs, IV.one c = true) →
      (∀ (q : Nat) (c : IV), cs[off0 + q]? = some c → w.cell? ⟨b, off + q, none⟩ = some (cv q) ∧ Rel K.I w c (cv q)) →
      ∃ u, (execOp w0.eval ⟨d, .load t x, ty, ps, af, g⟩).run P w = .ok (.value u) w ∧ TRel K w (.iv z) u := by
    intro cs off0 z b off cv e hz ho hr
    unfold partIV at hz
    split at hz
    · rename_i hl
      have hcell : ∀ q, q < sz → w.cell? ⟨b, off + q, none⟩ = some (cv q) := fun q hq => (hr q cs[off0 + q] (by simp)).1
      cases ag
      · simp at hz
        obtain ⟨h1, hz⟩ := hz
        refine ⟨_, run b off cv e hcell (fun _ => h1), ?_⟩
        simp only [Bool.false_eq_true, if_false]
        exact .iv _ _ (hr 0 z (by simpa using hz)).2
      · simp at hz; subst hz
        refine ⟨_, run b off cv e hcell (by simp), ?_⟩
        simp only [if_true]
        refine .iv _ _ (.agg _ _ (by simp; omega) (fun c hc => ho c (List.mem_of_mem_drop (List.mem_of_mem_take hc))) ?_)
        intro q c v hc hv
        obtain ⟨hc, hq⟩ := take_drop_at hc
        simp [hq] at hv
        subst hv
        exact (hr q c hc).2
    · cases hz
  unfold loadOf at h
  split at h
  · rename_i y
    split at h
    · rename_i hl
      simp only [Option.map_eq_some_iff] at h
      obtain ⟨z, hz, rfl⟩ := h
      cases hrel with
      | iv _ _ h1 =>
      generalize hcv : w0.eval x = cv at h1
      cases h1 with
      | ref _ b off cv hI hm ho hr =>
        exact fromIV y.cells 0 z b off cv hcv hz ho (fun q c hq => by rw [Nat.zero_add] at hq; exact ⟨hm q c hq, hr q c hq⟩)
    · cases h
  · rename_i k n off
    split at h
    · rename_i n' cs hk
      split at h
      · rename_i hn; subst hn
        obtain ⟨b, e, vs, hA, hh, hsz', hr⟩ := (hs.slots.rel k n _ hk).2
        generalize hcv : w0.eval x = cv at hrel
        cases hrel with
        | loc _ _ _ b' hn' hA' =>
        have hb : b' = b := by rw [hA'] at hA; injection hA with hA; injection hA with hA; injection hA
        subst hb
        unfold partTV at h
        split at h
        · rename_i hl
          have hcell : ∀ q, q < sz → w.cell? ⟨b', off + q, none⟩ = some (vs.getD (off + q) undef) := by
            intro q hq
            have hlt : off + q < vs.size := by omega
            simp [World.cell?, hh, Array.getD, hlt]
          cases ag
          · simp at h
            obtain ⟨h1, h⟩ := h
            refine ⟨_, run b' off (fun q => vs.getD (off + q) undef) hcv hcell (fun _ => h1), ?_⟩
            simp only [Bool.false_eq_true, if_false, Nat.add_zero]
            have hlt : off < vs.size := by omega
            exact (hr off r _ h (by simp [Array.getD, hlt])).1
          · simp at h; subst h
            refine ⟨_, run b' off (fun q => vs.getD (off + q) undef) hcv hcell (by simp), ?_⟩
            simp only [if_true]
            refine mkAgg_rel (by simp; omega) ?_
            intro q c v hc hv
            obtain ⟨hc, hq⟩ := take_drop_at hc
            have hlt : off + q < vs.size := by omega
            simp [hq, Array.getD, hlt] at hv
            subst hv
            exact hr _ c _ hc (by simp [hlt])
        · cases h
      · cases h
    · cases h
  · rename_i k n z i off
    split at h
    · rename_i n' e' z' xs hk
      split at h
      · rename_i hn
        obtain ⟨rfl, rfl⟩ := hn
        split at h
        · rename_i y hy
          simp only [Option.map_eq_some_iff] at h
          obtain ⟨u, hu, rfl⟩ := h
          obtain ⟨cvs, how, hss, hr⟩ := (hs.slots.rel k n _ hk).2
          generalize hcv : w0.eval x = cv at hrel
          cases hrel with
          | el _ _ _ _ _ b len cap hn' hA =>
          rcases how.2 with ⟨h1, _⟩ | ⟨g', cap', cur, h1, _, hh, hle, _, hcs, htake⟩
          · rw [hA] at h1; cases h1
          rw [hA] at h1
          injection h1 with h1 h2 h3; injection h1 with h1; injection h1 with h1
          subst h1
          have hlt : i < xs.length := (List.getElem?_eq_some_iff.1 hy).1
          have hyl := hss y (List.mem_of_getElem? hy)
          refine fromIV y.cells off u b (i * z + off) (fun q => cvs.getD (i * z + (off + q)) undef) hcv hu hyl.2 ?_
          intro q c hq
          have hql : off + q < z := by have := (List.getElem?_eq_some_iff.1 hq).1; omega
          have hf := (flat_at (fun x hx => (hss x hx).1) hy (off + q) hql).trans hq
          have hfl : i * z + (off + q) < xs.length * z := by
            have : (i + 1) * z ≤ xs.length * z := Nat.mul_le_mul_right _ hlt
            rw [Nat.add_mul] at this; omega
          have hcl : i * z + (off + q) < cvs.length := by rw [how.1]; exact hfl
          have hcq : cvs[i * z + (off + q)]? = some (cvs.getD (i * z + (off + q)) undef) := by simp [List.getD, hcl]
          refine ⟨?_, hr _ c _ hf hcq⟩
          have hcur : cur.toList[i * z + (off + q)]? = some (cvs.getD (i * z + (off + q)) undef) := by
            rw [← hcq, ← htake, List.getElem?_take_of_lt hfl]
          simp only [Array.getElem?_toList] at hcur
          simp only [World.cell?, hh]
          rw [Nat.add_assoc]
          simpa using hcur
        · cases h
      · cases h
    · cases h
  · cases h

theorem ok_load {t : TypeId} {sz : Nat} {ag : Bool} {x : Operand} {x' : AOpd} {v r : TV} (hsz : sizeIs P t sz) (ha : aggIs P t ag) (tx : trOpd x = some x') (hx : ev s.ρ x' = some v) (h : loadOf s.σ sz ag v = some r) :
    OpOk P N ⟨d, .load t x, ty, ps, af, g⟩ s r s.σ := .pure (load_rel hsz ha tx hx h)

end
end Go.Proofs.YtdlgenppdgkacaaGreatDoor.Ag
