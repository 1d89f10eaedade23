/- Slices made; greatest and least. -/
import Derived.Test.YtdlgenppdgkacaaGreatDoorAg11
set_option linter.unusedVariables false
set_option linter.unusedSimpArgs false
namespace Go.Proofs.YtdlgenppdgkacaaGreatDoor.Ag
open Go.RowKit (Below)

section
variable {P : Program} {N : Nat} {s : St} {d : Option Tmp} {ty : TypeId} {ps : String} {af : Array Edge} {g : Option (Nat × Bool)}

theorem wrap_small {n : Int} (h0 : 0 ≤ n) (h1 : n ≤ 140737488355328) : IntKind.i64.wrap n = n := by
  have e : (2 : Int) ^ IntKind.i64.bits = 18446744073709551616 := by decide
  have e2 : (2 : Int) ^ (IntKind.i64.bits - 1) = 9223372036854775808 := by decide
  unfold IntKind.wrap
  simp only [e, e2]
  rw [Int.emod_eq_of_lt h0 (by omega)]
  have : ¬ (n ≥ 9223372036854775808) := by omega
  simp [this]

theorem flat_replicate_len (l : Nat) (y : IV) : (flat (List.replicate l y)).length = l * y.cells.length := by
  induction l with
  | zero => simp [flat]
  | succ l ih => simp only [flat, List.replicate_succ, List.flatMap_cons, List.length_append] at ih ⊢; rw [ih, Nat.add_mul]; omega
theorem flat_replicate (l : Nat) (y : IV) (q : Nat) (h : q < l * y.cells.length) : (flat (List.replicate l y))[q]? = y.cells[q % y.cells.length]? := by
  induction l generalizing q with
  | zero => simp at h
  | succ l ih =>
    simp only [flat, List.replicate_succ, List.flatMap_cons] at ih ⊢
    by_cases hq : q < y.cells.length
    · rw [List.getElem?_append_left hq, Nat.mod_eq_of_lt hq]
    · rw [List.getElem?_append_right (by omega), ih _ (by rw [Nat.add_mul] at h; omega)]
      congr 1
      conv => rhs; rw [show q = (q - y.cells.length) + y.cells.length by omega, Nat.add_mod_right]

theorem ok_mks {t e : TypeId} {i : TypeInfo} {z : Value} {y : IV} {k : Nat} {x c : Operand} {x' c' : AOpd} {kl kc : IntKind} {l m : Int} (ht : P.underlying t = some (.slice e)) (hi : P.info? e = some i) (hz : i.zero = some z) (hy : ivCells z = some y.cells)
    (hsz : y.cells.length = i.size) (tx : trOpd x = some x') (tc : trOpd c = some c') (hx : ev s.ρ x' = some (.iv (.int kl l))) (hc : ev s.ρ c' = some (.iv (.int kc m))) (hb0 : 0 < i.bytes) (h0 : 0 ≤ l) (h1 : l ≤ m) (h2 : m * i.bytes ≤ 140737488355328) :
    OpOk P N ⟨d, .makeSlice t x c, ty, ps, af, g⟩ s (.lst k (nxt s.σ k)) (upd s.σ k (nxt s.σ k, .list e i.size (List.replicate l.toNat y))) := by
  refine .of fun K a w hs => ?_
  have hv := ev_rel hs tx hx
  have hw := ev_rel hs tc hc
  cases hv with
  | iv _ _ hv =>
  cases hw with
  | iv _ _ hw =>
  generalize hcv : a.eval x = cv at hv
  generalize hcw : a.eval c = cw at hw
  cases hv; cases hw
  obtain ⟨c1, c2, c3⟩ := ivCells_rel hy K.I w
  have hm : m ≤ 140737488355328 := by
    have : m * 1 ≤ m * i.bytes := Int.mul_le_mul_of_nonneg_left (by omega) (by omega)
    omega
  let cells : Array Value := (Array.range (m.toNat * i.size)).map (fun j => (if m.toNat * i.size = 0 then #[] else z.cells)[j % (if m.toNat * i.size = 0 then #[] else z.cells).size]!)
  have hrun : (execOp a.eval ⟨d, .makeSlice t x c, ty, ps, af, g⟩).run P w = .ok (.value (.slice (some ⟨w.heap.size, 0, none⟩) l.toNat m.toNat)) (w.alloc (.cells cells e)) := by
    have hlb : ¬ (281474976710656 < (i.bytes : Int) * l) := by
      have : i.bytes * l ≤ i.bytes * m := Int.mul_le_mul_of_nonneg_left h1 (by omega)
      rw [Int.mul_comm] at h2; omega
    have hmb : ¬ (281474976710656 < (i.bytes : Int) * m) := by rw [Int.mul_comm] at h2; omega
    by_cases hn : m.toNat * i.size = 0
    · simp [execOp, Instr.makeSlice, hcv, hcw, run_underlying' ht, asInt, asIntOf, typeInfo, hi, wrap_small h0 (by omega), wrap_small (show 0 ≤ m by omega) hm, sizeOf, newRow, hn, cells, show ¬ m < 0 by omega, show ¬ l < 0 by omega, show ¬ m < l by omega, hmb]
    · simp [execOp, Instr.makeSlice, hcv, hcw, run_underlying' ht, asInt, asIntOf, typeInfo, hi, hz, zeroValue, wrap_small h0 (by omega), wrap_small (show 0 ≤ m by omega) hm, sizeOf, newRow, hn, cells, show ¬ m < 0 by omega, show ¬ l < 0 by omega, show ¬ m < l by omega, hmb]
  have hcsz : cells.size = m.toNat * i.size := by simp [cells]
  have hadd := hs.slots.add (w' := w.alloc (.cells cells e)) k (.list e i.size (List.replicate l.toNat y)) (.slice (some ⟨w.heap.size, 0, none⟩) l.toNat m.toNat) none (Grew.alloc w _ none) (fun b hb => by cases hb)
    (fun b hb => by simp [own, Value.ownBlock] at hb; subst hb; exact ⟨by simp, .inl (Nat.le_refl _)⟩)
    (fun K' le _ _ => by
      refine ⟨cells.toList.take (l.toNat * i.size), ⟨?_, .inr ⟨w.heap.size, m.toNat, cells, by simp, Nat.zero_le _, heap_last w _, by simp; omega, by unfold maxLen; omega, hcsz, by simp⟩⟩, ?_, ?_⟩
      · have : l.toNat * i.size ≤ m.toNat * i.size := Nat.mul_le_mul_right _ (by omega)
        rw [List.length_take, Array.length_toList, hcsz, List.length_replicate, Nat.min_eq_left this]
      · intro x hx
        obtain ⟨_, rfl⟩ := List.mem_replicate.1 hx
        exact ⟨hsz, c2⟩
      · intro q c u hq hu
        have hql : q < l.toNat * y.cells.length := by have := (List.getElem?_eq_some_iff.1 hq).1; rwa [flat_replicate_len] at this
        rw [flat_replicate _ _ _ hql] at hq
        have hql2 : q < l.toNat * i.size := by rw [← hsz]; exact hql
        have hqm : q < m.toNat * i.size := Nat.lt_of_lt_of_le hql2 (Nat.mul_le_mul_right _ (by omega))
        rw [List.getElem?_take_of_lt hql2] at hu
        have hne : ¬ m.toNat * i.size = 0 := by omega
        simp only [cells, if_neg hne, Array.toList_map, Array.toList_range, List.getElem?_map] at hu
        rw [List.getElem?_range hqm] at hu
        simp only [Option.map_some, Option.some.injEq] at hu
        have hzs : z.cells.size = y.cells.length := c1
        have hpos : 0 < y.cells.length := by
          rcases Nat.eq_zero_or_pos y.cells.length with h | h
          · rw [h] at hql; omega
          · exact h
        have hlt : q % y.cells.length < z.cells.size := by rw [hzs]; exact Nat.mod_lt _ hpos
        rw [hzs, getElem!_pos z.cells _ hlt] at hu
        subst hu
        exact ((c3 _ c _ hq (by simp [hlt])).1).stays le.1)
  rw [hs.slots.nxt k] at hadd
  have hrel := TRel.lst (K := K.add k (.slice (some ⟨w.heap.size, 0, none⟩) l.toNat m.toNat)) (w := w.alloc (.cells cells e)) k (nxt s.σ k) (by simp [Kr.add, hs.slots.nxt k])
  have hA1 : (K.add k (.slice (some ⟨w.heap.size, 0, none⟩) l.toNat m.toNat)).A k (nxt s.σ k) = .slice (some ⟨w.heap.size, 0, none⟩) l.toNat m.toNat := by simp [Kr.add, hs.slots.nxt k]
  rw [hA1] at hrel
  exact ⟨_, _, _, hrun, hrel, hadd.1, hadd.2⟩

/-- The literal of no element, for a list of the call's own. -/
theorem ok_blist {t e : TypeId} {i : TypeInfo} {k : Nat} (ht : P.underlying t = some (.slice e)) (hi : P.info? e = some i) :
    OpOk P N ⟨d, .buildSlice t 0 #[], ty, ps, af, g⟩ s (.lst k (nxt s.σ k)) (upd s.σ k (nxt s.σ k, .list e i.size [])) := by
  refine .of fun K a w hs => ?_
  have hrun : (execOp a.eval ⟨d, .buildSlice t 0 #[], ty, ps, af, g⟩).run P w = .ok (.value (.slice (some ⟨w.heap.size, 0, none⟩) 0 0)) (w.alloc (.cells #[] e)) := by
    simp [execOp, Instr.buildSlice, run_underlying' ht, sizeOf, typeInfo, hi, Instr.fill, newRow]
    rw [show (Array.range 0) = (#[] : Array Nat) from by apply Array.ext'; simp]
    simp
  have hadd := hs.slots.add (w' := w.alloc (.cells #[] e)) k (.list e i.size []) (.slice (some ⟨w.heap.size, 0, none⟩) 0 0) none (Grew.alloc w _ none) (fun b hb => by cases hb)
    (fun b hb => by simp [own, Value.ownBlock] at hb; subst hb; exact ⟨by simp, .inl (Nat.le_refl _)⟩)
    (fun K' le _ _ => ⟨[], ⟨by simp, .inr ⟨w.heap.size, 0, #[], rfl, Nat.zero_le _, heap_last w _, Nat.le_refl _, by unfold maxLen; omega, by simp, by simp⟩⟩, fun x hx => by simp at hx, fun q c u hq => by simp [flat] at hq⟩)
  rw [hs.slots.nxt k] at hadd
  have hrel := TRel.lst (K := K.add k (.slice (some ⟨w.heap.size, 0, none⟩) 0 0)) (w := w.alloc (.cells #[] e)) k (nxt s.σ k) (by simp [Kr.add, hs.slots.nxt k])
  have hA1 : (K.add k (.slice (some ⟨w.heap.size, 0, none⟩) 0 0)).A k (nxt s.σ k) = .slice (some ⟨w.heap.size, 0, none⟩) 0 0 := by simp [Kr.add, hs.slots.nxt k]
  rw [hA1] at hrel
  exact ⟨_, _, _, hrun, hrel, hadd.1, hadd.2⟩

/-- max and min of two integers. -/
theorem ok_mm {isMax : Bool} {x y : Operand} {x' y' : AOpd} {tys : Array TypeId} {k k' : IntKind} {a b : Int} (tx : trOpd x = some x') (tyy : trOpd y = some y') (hx : ev s.ρ x' = some (.iv (.int k a))) (hy : ev s.ρ y' = some (.iv (.int k' b))) :
    OpOk P N ⟨d, .call { callee := .builtin (if isMax then .max else .min), args := #[x, y], argTypes := tys }, ty, ps, af, g⟩ s (.iv (.int k (if isMax then (if a < b then b else a) else (if b < a then b else a)))) s.σ := by
  refine .pure fun K w0 w hs => ?_
  have h1 := ev_rel hs tx hx
  have h2 := ev_rel hs tyy hy
  cases h1 with
  | iv _ _ h1 =>
  cases h2 with
  | iv _ _ h2 =>
  generalize hcv : w0.eval x = cv at h1
  generalize hcy : w0.eval y = cy at h2
  cases h1; cases h2
  refine ⟨.int k _, ?_, .iv _ _ (.int _ _)⟩
  cases isMax <;> simp [execOp, resolve, invoke, builtin, Builtin.max_, Builtin.max2, Builtin.min_, Builtin.min2, hcv, hcy]

end
end Go.Proofs.YtdlgenppdgkacaaGreatDoor.Ag
