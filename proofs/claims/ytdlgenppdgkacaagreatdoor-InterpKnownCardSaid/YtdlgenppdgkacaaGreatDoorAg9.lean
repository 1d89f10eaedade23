/- Boxes made, loaded and stored; structs and slices laid out of parts. -/
import Derived.Test.YtdlgenppdgkacaaGreatDoorAg8
import Derived.Great.BuildSlice
set_option linter.unusedVariables false
set_option linter.unusedSimpArgs false
namespace Go.Proofs.YtdlgenppdgkacaaGreatDoor.Ag
open Go.RowKit (Below)

/-- A value's cells; an owned list, a map, where the place still is that. -/
def cellsOf (σ : Slots) : TV → Option (List TV)
  | .lst k n => match lk σ k with
    | some (n', .list _ _ _) => if n = n' then some [.lst k n] else none
    | some (n', .froz _) => if n = n' then some [.lst k n] else none
    | some (n', .tl _ _ _) => if n = n' then some [.lst k n] else none
    | _ => none
  | .mp k n => match lk σ k with
    | some (n', .map _ _) => if n = n' then some [.mp k n] else none
    | _ => none
  | .itr _ _ => none
  | t => t.cells?

theorem one_cells {K : Kr} {w : World} {x : TV} {v : Value} (hr : TRel K w x v) (ho : v.oneCell' = true) :
    v.cells.size = [x].length ∧ ∀ (q : Nat) (c : TV) (u : Value), [x][q]? = some c → v.cells[q]? = some u → TRel K w c u ∧ u.oneCell' = true := by
  have hc : v.cells = #[v] := by cases v <;> first | rfl | simp [Value.oneCell'] at ho
  rw [hc]
  refine ⟨rfl, fun q c u hq hu => ?_⟩
  cases q with
  | zero => simp at hq hu; subst hq; subst hu; exact ⟨hr, ho⟩
  | succ q => simp at hq

theorem cellsOf_rel {K : Kr} {σ : Slots} {w : World} (hs : SlotsRel K σ w) {t : TV} {v : Value} (r : TRel K w t v) {cs : List TV} (h : cellsOf σ t = some cs) :
    v.cells.size = cs.length ∧ ∀ (q : Nat) (c : TV) (u : Value), cs[q]? = some c → v.cells[q]? = some u → TRel K w c u ∧ u.oneCell' = true := by
  unfold cellsOf at h
  split at h
  · rename_i k n
    have key : ∀ a l c, K.A k n = .slice a l c → cs = [.lst k n] → v.cells.size = cs.length ∧ ∀ (q : Nat) (c : TV) (u : Value), cs[q]? = some c → v.cells[q]? = some u → TRel K w c u ∧ u.oneCell' = true := by
      intro a l c hA hcs
      subst hcs
      have ho : v.oneCell' = true := by cases r; rw [hA]; rfl
      exact one_cells r ho
    split at h
    · rename_i n' e sz xs hk
      split at h
      · rename_i hn; subst hn
        injection h with h
        obtain ⟨a, cap, hA⟩ := lst_one hs hk
        exact key a _ cap hA h.symm
      · cases h
    · rename_i n' xs hk
      split at h
      · rename_i hn; subst hn
        injection h with h
        have h2 := (hs.rel k n _ hk).2
        simp only [IRel] at h2
        generalize hA : K.A k n = cv at h2
        cases h2 with
        | empty a cap => exact key a _ cap hA h.symm
        | slice _ b off cap sz cv hc hs hI hm ho hr => exact key _ _ _ hA h.symm
      · cases h
    · rename_i n' e' sz' cs' hk
      split at h
      · rename_i hn; subst hn
        injection h with h
        obtain ⟨m, cvs, _, _, how, _⟩ := (hs.rel k n _ hk).2
        rcases how.2 with ⟨h1, h2⟩ | ⟨g, cap, cur, h1, _⟩
        · exact key none 0 0 (by rw [h1]) h.symm
        · exact key _ m cap h1 h.symm
      · cases h
    · cases h
  · rename_i k n
    split at h
    · rename_i n' kd es hk
      split at h
      · rename_i hn; subst hn
        injection h with h
        subst h
        obtain ⟨b, ms, clock, hA, _⟩ := (hs.rel k n _ hk).2
        have ho : v.oneCell' = true := by cases r; rw [hA]; rfl
        exact one_cells r ho
      · cases h
    · cases h
  · cases h
  · rename_i h1 h2 h3
    exact r.cells h h1 h2 h3

section
variable {P : Program} {N : Nat} {s : St} {d : Option Tmp} {ty : TypeId} {ps : String} {af : Array Edge} {g : Option (Nat × Bool)}

/-- An operation that may draw or seal first and then is done. -/
theorem OpOk.of {o : Oper} {r : TV} {σ' : Slots}
    (h : ∀ K a w, SRel N K s a w → ∃ K' w' u, (execOp a.eval o).run P w = .ok (.value u) w' ∧ TRel K' w' r u ∧ SlotsRel K' σ' w' ∧ Evo K s.σ w K' σ' w') : OpOk P N o s r σ' := by
  intro K a w hs
  obtain ⟨K', w', u, h1, h2, h3, h4⟩ := h K a w hs
  exact ⟨_, K', w', u, h1, .inl rfl, h2, h3, h4⟩

/-- A new block of cells that nobody writes: a pointer to it. -/
theorem ok_boxI {e : TypeId} {x : Operand} {x' : AOpd} {v : TV} {y : IV} {σ' : Slots} (tx : trOpd x = some x') (hx : ev s.ρ x' = some v) (hy : shut v s.σ = some (y, σ')) (hone : ∀ xs, y ≠ .tup xs) :
    OpOk P N ⟨d, .box e x, ty, ps, af, g⟩ s (.iv (.ref y)) σ' := by
  refine .of fun K a w hs => ?_
  obtain ⟨K1, h1, h2, h3⟩ := shut_ok v hs.slots (ev_rel hs tx hx) hy
  have hcells : (a.eval x).cells.size = y.cells.length ∧ (∀ c ∈ y.cells, c.one = true) ∧ ∀ (q : Nat) (c : IV) (u : Value), y.cells[q]? = some c → (a.eval x).cells[q]? = some u → Rel K1.I w c u := by
    generalize hcv : a.eval x = cv at h3
    cases h3 with
    | agg cs vs hn ho hr => exact ⟨hn, ho, hr⟩
    | tup xs vs hn hr => exact absurd rfl (hone xs)
    | _ =>
      refine ⟨rfl, fun c hc => by simp [IV.cells] at hc; subst hc; rfl, fun q c u hq hu => ?_⟩
      cases q with
      | zero => simp [IV.cells, Value.cells] at hq hu; subst hq; subst hu; first | assumption | constructor <;> assumption
      | succ q => simp [IV.cells] at hq
  obtain ⟨c1, c2, c3⟩ := hcells
  have gr := Grew.alloc w (.cells (a.eval x).cells e) none
  obtain ⟨f1, f2⟩ := h1.fix gr (fun b => b = w.heap.size) (fun b hb => by subst hb; simp)
  refine ⟨_, _, .pointer (some ⟨w.heap.size, 0, none⟩), ?_, ?_, f1, h2.trans f2⟩
  · simp [execOp, Instr.box, newVar, newRow]
  · refine .iv _ _ (.ref y w.heap.size 0 (fun q => (a.eval x).cells.getD q undef) (.inr rfl) ?_ c2 ?_)
    · intro q c hq
      have hlt : q < (a.eval x).cells.size := by have := (List.getElem?_eq_some_iff.1 hq).1; omega
      rw [Nat.zero_add, World.cell?_alloc_new]
      simp [Array.getD, hlt]
    · intro q c hq
      have hlt : q < (a.eval x).cells.size := by have := (List.getElem?_eq_some_iff.1 hq).1; omega
      exact (c3 q c _ hq (by simp [Array.getD, hlt])).stays f2.le.1

theorem heap_last (w : World) (o : Obj) : (w.alloc o).heap[w.heap.size]? = some o := by
  show (w.heap.push o)[w.heap.size]? = some o
  simp

/-- A new box of the call's own, at place k. -/
theorem boxed {K : Kr} {σ : Slots} {w : World} (h : SlotsRel K σ w) (k : Nat) (e : TypeId) (vs : Array Value) (cs : List TV) (hn : vs.size = cs.length)
    (hr : ∀ (q : Nat) (c : TV) (u : Value), cs[q]? = some c → vs[q]? = some u → TRel K w c u ∧ u.oneCell' = true) :
    ∃ K', SlotsRel K' (upd σ k (nxt σ k, .box cs)) (w.alloc (.cells vs e)) ∧ Evo K σ w K' (upd σ k (nxt σ k, .box cs)) (w.alloc (.cells vs e)) ∧
      TRel K' (w.alloc (.cells vs e)) (.loc k (nxt σ k) 0) (.pointer (some ⟨w.heap.size, 0, none⟩)) := by
  have := h.add (w' := w.alloc (.cells vs e)) k (.box cs) (.pointer (some ⟨w.heap.size, 0, none⟩)) none (Grew.alloc w _ none) (fun b hb => by cases hb)
    (fun b hb => by simp [own] at hb; subst hb; exact ⟨by simp, .inl (Nat.le_refl _)⟩)
    (fun K' le _ _ => ⟨w.heap.size, e, vs, rfl, heap_last w _, hn, fun q c u hc hu => ⟨(hr q c u hc hu).1.mono le, (hr q c u hc hu).2⟩⟩)
  rw [h.nxt k] at this
  refine ⟨_, this.1, this.2, ?_⟩
  exact .loc k _ 0 w.heap.size (by simp [Kr.add, h.nxt k]) (by simp [Kr.add, h.nxt k])

theorem ok_box {e : TypeId} {k : Nat} {x : Operand} {x' : AOpd} {v : TV} {cs : List TV} (tx : trOpd x = some x') (hx : ev s.ρ x' = some v) (hc : cellsOf s.σ v = some cs) :
    OpOk P N ⟨d, .box e x, ty, ps, af, g⟩ s (.loc k (nxt s.σ k) 0) (upd s.σ k (nxt s.σ k, .box cs)) := by
  refine .of fun K a w hs => ?_
  obtain ⟨c1, c2⟩ := cellsOf_rel hs.slots (ev_rel hs tx hx) hc
  obtain ⟨K', h1, h2, h3⟩ := boxed hs.slots k e (a.eval x).cells cs c1 c2
  exact ⟨K', _, _, by simp [execOp, Instr.box, newVar, newRow], h3, h1, h2⟩

/-- The zero value of a type. -/
def zeroIs (P : Program) (t : TypeId) (cs : List IV) : Prop := ∃ i z, P.info? t = some i ∧ i.zero = some z ∧ ivCells z = some cs

theorem ok_alloc {e : TypeId} {k : Nat} {cs : List IV} (hz : zeroIs P e cs) :
    OpOk P N ⟨d, .alloc e, ty, ps, af, g⟩ s (.loc k (nxt s.σ k) 0) (upd s.σ k (nxt s.σ k, .box (cs.map .iv))) := by
  refine .of fun K a w hs => ?_
  obtain ⟨i, z, hi, hz, hc⟩ := hz
  obtain ⟨c1, c2, c3⟩ := ivCells_rel hc K.I w
  obtain ⟨K', h1, h2, h3⟩ := boxed hs.slots k e z.cells (cs.map .iv) (by simpa using c1) (fun q c u hq hu => by
    simp only [List.getElem?_map, Option.map_eq_some_iff] at hq
    obtain ⟨y, hy, rfl⟩ := hq
    exact ⟨.iv _ _ (c3 q y u hy hu).1, (c3 q y u hy hu).2⟩)
  exact ⟨K', _, _, by simp [execOp, Instr.alloc, zeroValue, typeInfo, hi, hz, newVar, newRow], h3, h1, h2⟩

/-- The zero value of a type as a new pointer to what nobody writes. -/
theorem ok_allocI {e : TypeId} {cs : List IV} {y : IV} (hz : zeroIs P e cs) (hy : y.cells = cs) :
    OpOk P N ⟨d, .alloc e, ty, ps, af, g⟩ s (.iv (.ref y)) s.σ := by
  refine .of fun K a w hs => ?_
  obtain ⟨i, z, hi, hz, hc⟩ := hz
  obtain ⟨c1, c2, c3⟩ := ivCells_rel hc K.I w
  have gr := Grew.alloc w (.cells z.cells e) none
  obtain ⟨f1, f2⟩ := hs.slots.fix gr (fun b => b = w.heap.size) (fun b hb => by subst hb; simp)
  refine ⟨_, _, .pointer (some ⟨w.heap.size, 0, none⟩), ?_, ?_, f1, f2⟩
  · simp [execOp, Instr.alloc, zeroValue, typeInfo, hi, hz, newVar, newRow]
  · refine .iv _ _ (.ref y w.heap.size 0 (fun q => z.cells.getD q undef) (.inr rfl) ?_ (by rw [hy]; exact c2) ?_)
    · intro q c hq
      rw [hy] at hq
      have hlt : q < z.cells.size := by have := (List.getElem?_eq_some_iff.1 hq).1; omega
      rw [Nat.zero_add, World.cell?_alloc_new]
      simp [Array.getD, hlt]
    · intro q c hq
      rw [hy] at hq
      have hlt : q < z.cells.size := by have := (List.getElem?_eq_some_iff.1 hq).1; omega
      exact (c3 q c _ hq (by simp [Array.getD, hlt])).1.stays f2.le.1

/-! ### a store -/
def splice {α : Type} (l : List α) (off : Nat) (m : List α) : List α := l.take off ++ m ++ l.drop (off + m.length)

theorem splice_get {α : Type} {l m : List α} {off : Nat} (h : off + m.length ≤ l.length) (q : Nat) :
    (splice l off m)[q]? = if off ≤ q ∧ q < off + m.length then m[q - off]? else l[q]? := by
  have hlt : (l.take off).length = off := by simp; omega
  unfold splice
  by_cases h1 : q < off
  · rw [List.append_assoc, List.getElem?_append_left (by omega), if_neg (by omega), List.getElem?_take_of_lt h1]
  · by_cases h2 : q < off + m.length
    · rw [List.append_assoc, List.getElem?_append_right (by omega), hlt, List.getElem?_append_left (by omega), if_pos ⟨by omega, h2⟩]
    · rw [List.getElem?_append_right (by simp; omega), if_neg (by omega), List.getElem?_drop]
      congr 1
      simp
      omega

def storeOf (σ : Slots) (sz : Nat) (p v : TV) : Option Slots :=
  match p with
  | .loc k n off => match lk σ k with
    | some (n', .box cs) => if n = n' then match cellsOf σ v with
        | some vs => if vs.length = sz ∧ off + sz ≤ cs.length then some (upd σ k (n, .box (splice cs off vs))) else none
        | none => none
      else none
    | _ => none
  | _ => none

theorem setRow_grew (w : World) (b : Nat) (cs : Array Value) : Grew w (w.setRow b cs) (some b) :=
  ⟨rfl, rfl, rfl, by simp, fun b' _ hne => setRow_other w b b' cs (fun e => hne (by rw [e]))⟩

theorem ok_store {t : TypeId} {sz : Nat} {x y : Operand} {x' y' : AOpd} {p v : TV} {σ' : Slots} (hsz : sizeIs P t sz) (tx : trOpd x = some x') (tyy : trOpd y = some y')
    (hx : ev s.ρ x' = some p) (hy : ev s.ρ y' = some v) (h : storeOf s.σ sz p v = some σ') : OpOk P N ⟨d, .store t x y, ty, ps, af, g⟩ s .dead σ' := by
  intro K a w hs
  have hp := ev_rel hs tx hx
  have hv := ev_rel hs tyy hy
  unfold storeOf at h
  split at h
  · rename_i k n off
    split at h
    · rename_i n' cs hk
      split at h
      · rename_i hn; subst hn
        split at h
        · rename_i vs hvs
          split at h
          · rename_i hl
            obtain ⟨hl1, hl2⟩ := hl
            injection h with h; subst h
            obtain ⟨c1, c2⟩ := cellsOf_rel hs.slots hv hvs
            obtain ⟨b, e, us, hA, hh, hus, hr⟩ := (hs.slots.rel k n _ hk).2
            generalize hcv : a.eval x = cv at hp
            cases hp with
            | loc _ _ _ b' hn' hA' =>
            have hb : b' = b := by rw [hA'] at hA; injection hA with hA; injection hA with hA; injection hA
            subst hb
            have hst := run_storeCells_at P b' off e (a.eval y).cells.toList 0 us w hh (by simp; omega) (fun u hu => by
              obtain ⟨q, hq⟩ := List.getElem?_of_mem hu
              have hlt : q < vs.length := by have := (List.getElem?_eq_some_iff.1 hq).1; simp at this; omega
              exact (c2 q vs[q] u (by simp [hlt]) (by simpa using hq)).2)
            simp only [Nat.add_zero] at hst
            have hrun : (execOp a.eval ⟨d, .store t x y, ty, ps, af, g⟩).run P w = .ok .skip (w.setRow b' (splice us.toList off (a.eval y).cells.toList).toArray) := by
              simp only [execOp, hcv, Instr.storeAt, Instr.sureAddr, storeVar, Sem.run_bind, Sem.run_pure, Result.andThen_ok, run_sizeOf hsz]
              rw [if_neg (by omega)]
              simp only [hst, splice, Result.andThen_ok, Sem.run_pure]
            obtain ⟨t1, t2⟩ := hs.slots.turn (w' := w.setRow b' (splice us.toList off (a.eval y).cells.toList).toArray) k n (.box cs) (.box (splice cs off vs)) hk (some b') (setRow_grew w b' _)
              (fun b hb => by simp at hb; subst hb; rw [hA']; rfl) (fun b hb => by rw [hA'] at hb ⊢; exact hb) (fun le => by
                refine ⟨b', e, _, hA', setRow_heap w b' us _ e (0, 0) hh, ?_, ?_⟩
                · simp [splice]; omega
                · intro q c u hc hu
                  have hu' : (splice us.toList off (a.eval y).cells.toList)[q]? = some u := by simpa using hu
                  rw [splice_get (by simp; omega)] at hu'
                  rw [splice_get (by omega)] at hc
                  have e1 : (a.eval y).cells.toList.length = vs.length := by simpa using c1
                  rw [e1] at hu'
                  split at hc
                  · rename_i hq
                    rw [if_pos hq] at hu'
                    have := c2 (q - off) c u hc (by simpa using hu')
                    exact ⟨this.1.mono le, this.2⟩
                  · rename_i hq
                    rw [if_neg hq] at hu'
                    have := hr q c u hc (by simpa using hu')
                    exact ⟨this.1.mono le, this.2⟩)
            exact ⟨_, _, _, undef, hrun, .inr ⟨rfl, rfl⟩, .dead, t1, t2⟩
          · cases h
        · cases h
      · cases h
    · cases h
  · cases h

end
end Go.Proofs.YtdlgenppdgkacaaGreatDoor.Ag
