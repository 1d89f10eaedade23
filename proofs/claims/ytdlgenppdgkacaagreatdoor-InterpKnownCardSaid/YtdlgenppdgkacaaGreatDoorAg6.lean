/- The operations that read: what each gives without memory is what the model does. -/
import Derived.Test.YtdlgenppdgkacaaGreatDoorAg5
import Derived.Laws.Cells
import Derived.Laws.CopyRow
import Derived.Deep.MidRow
set_option linter.unusedVariables false
set_option linter.unusedSimpArgs false
namespace Go.Proofs.YtdlgenppdgkacaaGreatDoor.Ag
open Go.RowKit (Below)

abbrev Slots := List (Nat × Nat × Item)

/-- An operation, done in a state, comes to 'r' and leaves the places 'σ''. -/
def OpOk (P : Program) (N : Nat) (o : Oper) (s : St) (r : TV) (σ' : Slots) : Prop :=
  ∀ K a w, SRel N K s a w → ∃ n K' w' u, (execOp a.eval o).run P w = .ok n w' ∧ (n = .value u ∨ (n = .skip ∧ u = undef)) ∧ TRel K' w' r u ∧ SlotsRel K' σ' w' ∧ Evo K s.σ w K' σ' w'

theorem OpOk.pure {P : Program} {N : Nat} {o : Oper} {s : St} {r : TV}
    (h : ∀ K a w, SRel N K s a w → ∃ u, (execOp a.eval o).run P w = .ok (.value u) w ∧ TRel K w r u) : OpOk P N o s r s.σ := by
  intro K a w hs
  obtain ⟨u, h1, h2⟩ := h K a w hs
  exact ⟨_, K, w, u, h1, .inl rfl, h2, hs.slots, Evo.refl _ _ _⟩

/-! ### move, pick, arithmetic -/
section
variable {P : Program} {N : Nat} {s : St} {d : Option Tmp} {ty : TypeId} {ps : String} {af : Array Edge} {g : Option (Nat × Bool)}

theorem ok_move {x : Operand} {x' : AOpd} {v : TV} (tx : trOpd x = some x') (hx : ev s.ρ x' = some v) : OpOk P N ⟨d, .move x, ty, ps, af, g⟩ s v s.σ :=
  .pure fun K a w hs => ⟨_, rfl, ev_rel hs tx hx⟩
theorem ok_assign {x : Operand} {x' : AOpd} {v : TV} (tx : trOpd x = some x') (hx : ev s.ρ x' = some v) : OpOk P N ⟨d, .assign x, ty, ps, af, g⟩ s v s.σ :=
  .pure fun K a w hs => ⟨_, rfl, ev_rel hs tx hx⟩
theorem ok_pick {c x y : Operand} {c' x' y' : AOpd} {t : Bool} {v : TV} (tc : trOpd c = some c') (tx : trOpd x = some x') (tyy : trOpd y = some y')
    (hc : ev s.ρ c' = some (.iv (.bool t))) (hx : (if t then ev s.ρ x' else ev s.ρ y') = some v) : OpOk P N ⟨d, .pick c x y, ty, ps, af, g⟩ s v s.σ := by
  refine .pure fun K a w hs => ?_
  have h1 := ev_rel hs tc hc
  cases h1 with
  | iv _ _ h1 =>
  generalize hcv : a.eval c = cv at h1
  cases h1
  cases t
  · exact ⟨a.eval y, by simp [execOp, hcv, asBool], ev_rel hs tyy (by simpa using hx)⟩
  · exact ⟨a.eval x, by simp [execOp, hcv, asBool], ev_rel hs tx (by simpa using hx)⟩
/-- A value that is asked for where 'c' is true. -/
def openV (c : Bool) : TV → Option TV
  | .ifb c' v => if c' = c then some v else none
  | .dead => if c = true then none else some (.iv (.bool false))
  | v => some v
theorem openV_rel {K : Kr} {w : World} {c : Bool} {t r : TV} {u : Value} (h : openV c t = some r) (hc : c = true) (hr : TRel K w t u) : TRel K w r u := by
  unfold openV at h
  split at h
  · split at h
    · rename_i e; injection h with h; subst h
      cases hr with
      | ifb _ _ _ hr _ => exact hr (e.trans hc)
    · cases h
  · rw [if_pos hc] at h; cases h
  · injection h with h; subst h; exact hr
/-- 'c && x', 'c || x' as one truth. -/
def pickB (t : Bool) (x y : Option TV) : Option IV :=
  match x, y with
  | some x, some y => match openV t x, openV (!t) y with
    | some (.iv (.bool p)), some (.iv (.bool q)) => some (.bool (cond t p q))
    | _, _ => none
  | _, _ => none
theorem ok_pickB {c x y : Operand} {c' x' y' : AOpd} {t : Bool} {v : IV} (tc : trOpd c = some c') (tx : trOpd x = some x') (tyy : trOpd y = some y')
    (hc : ev s.ρ c' = some (.iv (.bool t))) (hx : pickB t (ev s.ρ x') (ev s.ρ y') = some v) : OpOk P N ⟨d, .pick c x y, ty, ps, af, g⟩ s (.iv v) s.σ := by
  refine .pure fun K a w hs => ?_
  have h1 := ev_rel hs tc hc
  cases h1 with
  | iv _ _ h1 =>
  generalize hcv : a.eval c = cv at h1
  cases h1
  unfold pickB at hx
  split at hx
  · rename_i vx vy hvx hvy
    split at hx
    · rename_i p q hp hq
      injection hx with hx; subst hx
      cases t
      · have hr := openV_rel hq rfl (ev_rel hs tyy hvy)
        refine ⟨a.eval y, by simp [execOp, hcv, asBool], ?_⟩
        simpa using hr
      · have hr := openV_rel hp rfl (ev_rel hs tx hvx)
        refine ⟨a.eval x, by simp [execOp, hcv, asBool], ?_⟩
        simpa using hr
    · cases hx
  · cases hx
theorem ok_bin {op : BinOp} {t t2 : TypeId} {x y : Operand} {x' y' : AOpd} {a b z : IV} (tx : trOpd x = some x') (tyy : trOpd y = some y')
    (hx : ev s.ρ x' = some (.iv a)) (hy : ev s.ρ y' = some (.iv b)) (hb : ∀ p q, a = .bool p → b = .bool q → P.underlying t = some .bool) (h : bin2 op a b = some z) :
    OpOk P N ⟨d, .binOp op t x y t2, ty, ps, af, g⟩ s (.iv z) s.σ := by
  refine .pure fun K w0 w hs => ?_
  have h1 := ev_rel hs tx hx
  have h2 := ev_rel hs tyy hy
  cases h1 with
  | iv _ _ h1 =>
  cases h2 with
  | iv _ _ h2 =>
  obtain ⟨r, hr, hz⟩ := bin2_run op t x y hb h1 h2 h
  refine ⟨r, ?_, .iv _ _ hz⟩
  simp only [execOp, Sem.run_bind] at hr ⊢
  rw [hr]
  rfl

def un1 (op : UnOp) : IV → Option IV
  | .bool b => match op with
    | .not => some (.bool (!b))
    | _ => none
  | .int k n => match op with
    | .neg => some (.int k (k.wrap (0 - n)))
    | .xor => some (.int k (bitOp .xor k (if k.signed then -1 else k.max) n))
    | _ => none
  | _ => none
theorem ok_un {op : UnOp} {t : TypeId} {x : Operand} {x' : AOpd} {a z : IV} (tx : trOpd x = some x') (hx : ev s.ρ x' = some (.iv a)) (h : un1 op a = some z) :
    OpOk P N ⟨d, .unOp op t x, ty, ps, af, g⟩ s (.iv z) s.σ := by
  refine .pure fun K w0 w hs => ?_
  have h1 := ev_rel hs tx hx
  cases h1 with
  | iv _ _ h1 =>
  generalize hcv : w0.eval x = cv at h1
  unfold un1 at h
  split at h
  · rename_i b
    cases h1
    split at h
    · injection h with h; subst h
      exact ⟨.bool (!b), by simp [execOp, hcv, Op.unary], .iv _ _ (.bool _)⟩
    · cases h
  · rename_i k n
    cases h1
    split at h
    · injection h with h; subst h
      refine ⟨.int _ _, ?_, .iv _ _ (.int _ _)⟩; simp [execOp, hcv, Op.unary, Op.intArith]
    · injection h with h; subst h
      refine ⟨.int _ _, ?_, .iv _ _ (.int _ _)⟩; simp only [execOp, hcv, Op.unary, Op.intBits, bitOp, Sem.run_bind, Sem.run_pure, Result.andThen_ok]
    · cases h
  · cases h

theorem ok_conv {src dst : TypeId} {x : Operand} {x' : AOpd} {k k' : IntKind} {n : Int} {u : TypeDesc} (tx : trOpd x = some x') (hx : ev s.ρ x' = some (.iv (.int k' n)))
    (hs1 : P.underlying src = some u) (hd : P.underlying dst = some (.int k)) : OpOk P N ⟨d, .convert src dst x, ty, ps, af, g⟩ s (.iv (.int k (k.wrap n))) s.σ := by
  refine .pure fun K w0 w hs => ?_
  have h1 := ev_rel hs tx hx
  cases h1 with
  | iv _ _ h1 =>
  generalize hcv : w0.eval x = cv at h1
  cases h1
  exact ⟨.int _ _, by simp [execOp, hcv, convert, run_underlying' hs1, run_underlying' hd, Conv.intToInt], .iv _ _ (.int _ _)⟩

theorem ok_ext {x : Operand} {x' : AOpd} {i : Nat} {r : TV} (tx : trOpd x = some x')
    (hx : (∃ xs c, ev s.ρ x' = some (.iv (.tup xs)) ∧ xs[i]? = some c ∧ r = .iv c) ∨ (∃ xs, ev s.ρ x' = some (.tup xs) ∧ xs[i]? = some r)) :
    OpOk P N ⟨d, .extract x i, ty, ps, af, g⟩ s r s.σ := by
  refine .pure fun K w0 w hs => ?_
  rcases hx with ⟨xs, c, hx, hc, rfl⟩ | ⟨xs, hx, hc⟩
  · have h1 := ev_rel hs tx hx
    cases h1 with
    | iv _ _ h1 =>
    generalize hcv : w0.eval x = cv at h1
    cases h1 with
    | tup _ vs hn hr =>
    have hlt : i < vs.size := by have := (List.getElem?_eq_some_iff.1 hc).1; omega
    have hv : vs[i]? = some vs[i] := by simp [hlt]
    exact ⟨vs[i], by simp [execOp, hcv, Instr.extract, hv], .iv _ _ (hr i c _ hc hv)⟩
  · have h1 := ev_rel hs tx hx
    generalize hcv : w0.eval x = cv at h1
    cases h1 with
    | tup _ vs hn hr =>
    have hlt : i < vs.size := by have := (List.getElem?_eq_some_iff.1 hc).1; omega
    have hv : vs[i]? = some vs[i] := by simp [hlt]
    exact ⟨vs[i], by simp [execOp, hcv, Instr.extract, hv], hr i r _ hc hv⟩

/-! ### lengths, elements -/
def lenOf (σ : Slots) : TV → Option Int
  | .iv (.slice xs) => some xs.length
  | .iv .nil => some 0
  | .iv (.str s) => some s.size
  | .lst k n => match lk σ k with
    | some (n', .list _ _ xs) => if n = n' then some xs.length else none
    | some (n', .froz xs) => if n = n' then some xs.length else none
    | _ => none
  | _ => none

/-- What 'len' needs of the operand's type. -/
def lenType (P : Program) (t : TypeId) : Bool :=
  match P.underlying t with
  | some .string => true
  | some (.slice _) => true
  | _ => false

theorem ok_len {x : Operand} {x' : AOpd} {t : TypeId} {v : TV} {n : Int} (tx : trOpd x = some x') (hx : ev s.ρ x' = some v) (hl : lenOf s.σ v = some n)
    (ht : (∃ e, P.underlying t = some (.slice e) ∧ ∀ b, v ≠ .iv (.str b)) ∨ (P.underlying t = some .string ∧ ∃ b, v = .iv (.str b))) :
    OpOk P N ⟨d, .call { callee := .builtin .len, args := #[x], argTypes := #[t] }, ty, ps, af, g⟩ s (.iv (.int .i64 n)) s.σ := by
  refine .pure fun K w0 w hs => ?_
  have h1 := ev_rel hs tx hx
  have key : ∀ a l c e, P.underlying t = some (.slice e) → w0.eval x = .slice a l c → (l : Int) = n → ∃ u, (execOp w0.eval ⟨d, .call { callee := .builtin .len, args := #[x], argTypes := #[t] }, ty, ps, af, g⟩).run P w = .ok (.value u) w ∧ TRel K w (.iv (.int .i64 n)) u := by
    intro a l c e he hv hn
    refine ⟨.int .i64 n, ?_, .iv _ _ (.int _ _)⟩
    simp [execOp, resolve, invoke, builtin, Builtin.len_, hv, run_underlying' he, goInt, hn]
  rcases ht with ⟨e, he, hne⟩ | ⟨he, b, rfl⟩
  · cases v with
    | iv y =>
      cases h1 with
      | iv _ _ h1 =>
      cases y with
      | slice xs =>
        simp [lenOf] at hl
        generalize hcv : w0.eval x = cv at h1
        cases h1 with
        | empty a cap => exact key _ _ _ e he hcv (by simpa using hl)
        | slice _ b off cap sz cv hc hs hI hm ho hr => exact key _ _ _ e he hcv hl
      | nil =>
        simp [lenOf] at hl
        generalize hcv : w0.eval x = cv at h1
        cases h1
        exact key _ _ _ e he hcv (by simpa using hl)
      | str b => exact absurd rfl (hne b)
      | _ => simp [lenOf] at hl
    | lst k m =>
      simp only [lenOf] at hl
      split at hl
      · rename_i n' e' sz xs hk
        split at hl
        · rename_i hnn; subst hnn
          injection hl with hl
          obtain ⟨a, cap, hA⟩ := lst_one hs.slots hk
          generalize hcv : w0.eval x = cv at h1
          cases h1
          exact key _ _ _ e he (hcv.trans hA) hl
        · cases hl
      · rename_i n' xs hk
        split at hl
        · rename_i hnn; subst hnn
          injection hl with hl
          have h2 := (hs.slots.rel k m _ hk).2
          generalize hcv : w0.eval x = cv at h1
          cases h1
          simp only [IRel] at h2
          generalize hcv2 : K.A k m = cv2 at h2 hcv
          cases h2 with
          | empty a cap => exact key _ _ _ e he hcv (by simpa using hl)
          | slice _ b off cap sz cv hc hs hI hm ho hr => exact key _ _ _ e he hcv hl
        · cases hl
      · cases hl
    | _ => simp [lenOf] at hl
  · simp [lenOf] at hl
    cases h1 with
    | iv _ _ h1 =>
    generalize hcv : w0.eval x = cv at h1
    cases h1
    refine ⟨.int .i64 n, ?_, .iv _ _ (.int _ _)⟩
    simp [execOp, resolve, invoke, builtin, Builtin.len_, hcv, run_underlying' he, goInt, hl]

theorem flat_at : ∀ {xs : List IV} {sz : Nat}, (∀ x ∈ xs, x.cells.length = sz) → ∀ {i : Nat} {y : IV}, xs[i]? = some y → ∀ q, q < sz → (flat xs)[i * sz + q]? = y.cells[q]?
  | [], sz, _, i, y, h, q, hq => by simp at h
  | x :: xs, sz, hs, 0, y, h, q, hq => by
    simp at h; subst h
    have h1 : x.cells.length = sz := hs x (by simp)
    simp only [flat, List.flatMap_cons, Nat.zero_mul, Nat.zero_add]
    rw [List.getElem?_append_left (by omega)]
  | x :: xs, sz, hs, i + 1, y, h, q, hq => by
    simp at h
    have h1 : x.cells.length = sz := hs x (by simp)
    have ih := flat_at (xs := xs) (sz := sz) (fun z hz => hs z (by simp [hz])) h q hq
    simp only [flat, List.flatMap_cons] at ih ⊢
    rw [List.getElem?_append_right (by rw [h1, Nat.add_mul]; omega), h1, ← ih]
    congr 1
    rw [Nat.add_mul]; omega

theorem run_indexAddr {P : Program} {t e : TypeId} {i : TypeInfo} (ht : P.underlying t = some (.slice e)) (hi : P.info? e = some i) (k : IntKind) (n : Int) (b off len cap : Nat) (h0 : 0 ≤ n) (h1 : n < len) (w : World) :
    (Instr.indexAt t (.slice (some ⟨b, off, none⟩) len cap) (.int k n)).run P w = .ok (.pointer (some ⟨b, off + n.toNat * i.size, none⟩)) w := by
  simp [Instr.indexAt, asIntOf, run_underlying' ht, h0, h1, sizeOf, typeInfo, hi, Addr.add_mid]

/-- 'xs[i]' as a place. -/
theorem ok_idxA {t e : TypeId} {i : TypeInfo} {x y : Operand} {x' y' : AOpd} {xs : List IV} {k : IntKind} {n : Int} {z : IV} (ht : P.underlying t = some (.slice e)) (hi : P.info? e = some i)
    (tx : trOpd x = some x') (tyy : trOpd y = some y') (hx : ev s.ρ x' = some (.iv (.slice xs))) (hy : ev s.ρ y' = some (.iv (.int k n))) (h0 : 0 ≤ n) (hz : xs[n.toNat]? = some z) (hsz : z.cells.length = i.size) :
    OpOk P N ⟨d, .indexAddr t x y, ty, ps, af, g⟩ s (.iv (.ref z)) s.σ := by
  refine .pure fun K w0 w hs => ?_
  have h1 := ev_rel hs tx hx
  have h2 := ev_rel hs tyy hy
  cases h1 with
  | iv _ _ h1 =>
  cases h2 with
  | iv _ _ h2 =>
  generalize hcv : w0.eval x = cv at h1
  generalize hcy : w0.eval y = cy at h2
  cases h2
  cases h1 with
  | empty a cap => simp at hz
  | slice _ b off cap sz cv hc hss hI hm ho hr =>
    have hlt : n.toNat < xs.length := (List.getElem?_eq_some_iff.1 hz).1
    have hzs : z.cells.length = sz := hss z (List.mem_of_getElem? hz)
    have hsi : i.size = sz := by omega
    refine ⟨.pointer (some ⟨b, off + n.toNat * i.size, none⟩), ?_, .iv _ _ (.ref z b _ (fun q => cv (n.toNat * sz + q)) hI ?_ ?_ ?_)⟩
    · simp only [execOp, hcv, hcy, Sem.run_bind, run_indexAddr ht hi k n b off xs.length cap h0 (by omega) w]; rfl
    · intro q c hq
      have hql : q < sz := by have := (List.getElem?_eq_some_iff.1 hq).1; omega
      rw [hsi, Nat.add_assoc]
      exact hm _ c ((flat_at hss hz q hql).trans hq)
    · intro c hc
      obtain ⟨q, hq⟩ := List.getElem?_of_mem hc
      have hql : q < sz := by have := (List.getElem?_eq_some_iff.1 hq).1; omega
      exact ho _ c ((flat_at hss hz q hql).trans hq)
    · intro q c hq
      have hql : q < sz := by have := (List.getElem?_eq_some_iff.1 hq).1; omega
      exact hr _ c ((flat_at hss hz q hql).trans hq)

/-- 's[i]' of a string. -/
theorem ok_idxS {t : TypeId} {x y : Operand} {x' y' : AOpd} {b : ByteArray} {k : IntKind} {n : Int} {z : UInt8} (ht : P.underlying t = some .string)
    (tx : trOpd x = some x') (tyy : trOpd y = some y') (hx : ev s.ρ x' = some (.iv (.str b))) (hy : ev s.ρ y' = some (.iv (.int k n))) (h0 : 0 ≤ n) (hz : b.data.toList[n.toNat]? = some z) :
    OpOk P N ⟨d, .index t x y, ty, ps, af, g⟩ s (.iv (.int .u8 z.toNat)) s.σ := by
  refine .pure fun K w0 w hs => ?_
  have h1 := ev_rel hs tx hx
  have h2 := ev_rel hs tyy hy
  cases h1 with
  | iv _ _ h1 =>
  cases h2 with
  | iv _ _ h2 =>
  generalize hcv : w0.eval x = cv at h1
  generalize hcy : w0.eval y = cy at h2
  cases h2
  cases h1
  have hb : b[n.toNat]? = some z := by
    have : b.data[n.toNat]? = some z := by simpa using hz
    obtain ⟨h3, h4⟩ := Array.getElem?_eq_some_iff.1 this
    exact getElem?_eq_some_iff.2 ⟨h3, h4⟩
  refine ⟨.int .u8 z.toNat, ?_, .iv _ _ (.int _ _)⟩
  simp [execOp, hcv, hcy, Instr.index, asIntOf, run_underlying' ht, h0, hb]

end
end Go.Proofs.YtdlgenppdgkacaaGreatDoor.Ag
