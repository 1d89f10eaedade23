/- Tails of the call's own lists: taken, cleared; a list cut at its end. -/
import Derived.Test.YtdlgenppdgkacaaGreatDoorAgM3
import Derived.Test.YtdlgenppdgkacaaGreatDoorAgS
set_option linter.unusedVariables false
set_option linter.unusedSimpArgs false
namespace Go.Proofs.YtdlgenppdgkacaaGreatDoor.Ag
open Go.RowKit (Below)

/-- A list cut at its end. -/
def truncI (hi : Nat) : Item → Option Item
  | .list e sz xs => if hi ≤ xs.length then some (.list e sz (xs.take hi)) else none
  | .tl e sz cs => if hi * sz ≤ cs.length then some (.tl e sz (cs.take (hi * sz))) else none
  | _ => none
/-- A list with its tail made zero. -/
def clrI (i : Nat) (y : IV) : Item → Option Item
  | .list e sz xs => if i ≤ xs.length then some (.list e sz (xs.take i ++ List.replicate (xs.length - i) y)) else none
  | .tl e sz cs => if i * sz ≤ cs.length then some (.tl e sz (cs.take (i * sz) ++ (flat (List.replicate (cs.length / sz - i) y)).map .iv)) else none
  | _ => none

theorem flat_takeN {sz : Nat} : ∀ {xs : List IV} {n : Nat}, (∀ x ∈ xs, x.cells.length = sz) → flat (xs.take n) = (flat xs).take (n * sz)
  | [], n, _ => by simp [flat]
  | x :: xs, 0, _ => by simp [flat]
  | x :: xs, n + 1, hs => by
    have ih := flat_takeN (xs := xs) (n := n) (fun y hy => hs y (by simp [hy]))
    have h1 := hs x (by simp)
    simp only [flat] at ih
    simp only [List.take_succ_cons, flat, List.flatMap_cons]
    rw [ih, Nat.add_mul, Nat.one_mul, List.take_append, h1, List.take_of_length_le (l := x.cells) (by omega), show n * sz + sz - sz = n * sz by omega]

theorem ownsRow_take {w : World} {e sz n hi : Nat} {v : Value} {cvs : List Value} (h : w.ownsRow 0 e sz v n cvs) (hle : hi ≤ n) :
    ∃ A cap, v = .slice A n cap ∧ n ≤ cap ∧ w.ownsRow 0 e sz (.slice A hi cap) hi (cvs.take (hi * sz)) ∧ (Value.slice A hi cap).ownBlock = v.ownBlock := by
  obtain ⟨hl, h⟩ := h
  have hm : hi * sz ≤ n * sz := Nat.mul_le_mul_right _ hle
  rcases h with ⟨rfl, rfl⟩ | ⟨g, cap, cur, rfl, hb, hh, hnc, hmx, hsz, ht⟩
  · have h0 : hi = 0 := by omega
    subst h0
    exact ⟨none, 0, rfl, Nat.le_refl _, ⟨by simp, .inl ⟨rfl, rfl⟩⟩, rfl⟩
  · refine ⟨_, cap, rfl, hnc, ⟨by simp; omega, .inr ⟨g, cap, cur, rfl, hb, hh, by omega, hmx, hsz, ?_⟩⟩, rfl⟩
    rw [← ht, List.take_take, Nat.min_eq_left hm]

theorem truncI_rel {K : Kr} {w : World} {it it' : Item} {v : Value} {hi : Nat} (h : truncI hi it = some it') (r : IRel K w it v) :
    ∃ A len cap, v = .slice A len cap ∧ hi ≤ len ∧ len ≤ cap ∧ own it' (.slice A hi cap) = own it v ∧ IRel K w it' (.slice A hi cap) := by
  cases it with
  | list e sz xs =>
    simp only [truncI] at h
    split at h
    · rename_i hle
      injection h with h; subst h
      obtain ⟨cvs, how, hss, hr⟩ := r
      obtain ⟨A, cap, rfl, hc, how', hob⟩ := ownsRow_take how hle
      refine ⟨A, _, cap, rfl, hle, hc, by rw [list_own, list_own]; exact hob, cvs.take (hi * sz), ?_, fun x hx => hss x (List.mem_of_mem_take hx), ?_⟩
      · rw [List.length_take, Nat.min_eq_left hle]; exact how'
      · intro q c u hq hu
        rw [flat_takeN (fun x hx => (hss x hx).1)] at hq
        rw [List.getElem?_take] at hq hu
        split at hq
        · rename_i hlt
          rw [if_pos hlt] at hu
          exact hr q c u hq hu
        · cases hq
    · cases h
  | tl e sz cs =>
    simp only [truncI] at h
    split at h
    · rename_i hle
      injection h with h; subst h
      obtain ⟨m, cvs, h0, hl, how, hr⟩ := r
      have hm : hi ≤ m := by rw [hl] at hle; exact Nat.le_of_mul_le_mul_right hle h0
      obtain ⟨A, cap, rfl, hc, how', hob⟩ := ownsRow_take how hm
      refine ⟨A, _, cap, rfl, hm, hc, by rw [tl_own, tl_own]; exact hob, hi, cvs.take (hi * sz), h0, by rw [List.length_take, Nat.min_eq_left hle], how', ?_⟩
      intro q c u hq hu
      rw [List.getElem?_take] at hq hu
      split at hq
      · rename_i hlt
        rw [if_pos hlt] at hu
        exact hr q c u hq hu
      · cases hq
    · cases h
  | _ => simp [truncI] at h

theorem zc_len (zs : Array Value) (n : Nat) : (Builtin.zeroCells zs n).toList.length = n * zs.size := by simp [Builtin.zeroCells]
theorem zc_get {z : Value} {y : IV} (hy : ivCells z = some y.cells) (I : Nat → Prop) (w : World) (n q : Nat) (u : Value) (h : (Builtin.zeroCells z.cells n).toList[q]? = some u) :
    q < n * y.cells.length ∧ ∃ c, y.cells[q % y.cells.length]? = some c ∧ Rel I w c u ∧ u.oneCell' = true := by
  obtain ⟨c1, c2, c3⟩ := ivCells_rel hy I w
  have hq : q < n * y.cells.length := by
    have := (List.getElem?_eq_some_iff.1 h).1
    rw [zc_len, c1] at this; exact this
  have hpos : 0 < y.cells.length := by
    rcases Nat.eq_zero_or_pos y.cells.length with h | h
    · rw [h] at hq; omega
    · exact h
  have hlt : q % y.cells.length < y.cells.length := Nat.mod_lt _ hpos
  have hlt' : q % y.cells.length < z.cells.size := by omega
  refine ⟨hq, y.cells[q % y.cells.length], List.getElem?_eq_getElem hlt, ?_⟩
  simp only [Builtin.zeroCells, Array.toList_map, Array.toList_range, List.getElem?_map] at h
  rw [List.getElem?_range (by rw [c1]; exact hq)] at h
  simp only [Option.map_some, Option.some.injEq] at h
  rw [c1, getElem!_pos z.cells _ hlt'] at h
  subst h
  exact c3 _ _ _ (List.getElem?_eq_getElem hlt) (by simp [hlt'])

section
variable {P : Program} {N : Nat} {s : St} {d : Option Tmp} {ty : TypeId} {ps : String} {af : Array Edge} {g : Option (Nat × Bool)}
theorem run_hi {P : Program} (len cap : Nat) (kk : IntKind) (h : Int) (h0 : 0 ≤ h) (h1 : h ≤ cap) (w : World) : (Instr.sliceBounds true len cap none (some (.int kk h)) none).run P w = .ok (0, h.toNat, cap) w := by
  simp only [Instr.sliceBounds, Sem.run_bind, Sem.run_pure, Result.andThen_ok, run_sb kk h cap _ ⟨h0, h1⟩]
theorem run_lo {P : Program} (len cap : Nat) (kk : IntKind) (l : Int) (h0 : 0 ≤ l) (h1 : l ≤ len) (w : World) : (Instr.sliceBounds true len cap (some (.int kk l)) none none).run P w = .ok (l.toNat, len, cap) w := by
  simp only [Instr.sliceBounds, Sem.run_bind, Sem.run_pure, Result.andThen_ok, run_sb kk l len _ ⟨h0, h1⟩]
theorem add0 (a : Option Addr) (cap p sz : Nat) (hp : p = 0) : (if cap = p then a else a.map (·.add (p * sz))) = a := by
  subst hp
  split
  · rfl
  · cases a <;> simp [Addr.add]

theorem OpOk.sealed {o : Oper} {r : TV} {σ1 σ' : Slots} {n : Nat} {v : TV} {z : IV} (hn : lk s.ρ n = some v) (hz : shut v s.σ = some (z, σ1))
    (h : OpOk P N o { ρ := (n, .iv z) :: s.ρ, σ := σ1 } r σ') : OpOk P N o s r σ' := by
  intro K a w hs
  obtain ⟨u, hu, hr⟩ := hs.tmps n v hn
  obtain ⟨K1, g1, g2, g3⟩ := shut_ok v hs.slots hr hz
  obtain ⟨n1, K2, w2, u2, h1, h2, h3, h4, h5⟩ := h K1 a w ⟨hs.size, fun t v' ht => by
    simp only [lk] at ht
    split at ht
    · rename_i e; subst e
      injection ht with ht; subst ht
      exact ⟨u, hu, .iv _ _ g3⟩
    · obtain ⟨u', h6, h7⟩ := hs.tmps t v' ht
      exact ⟨u', h6, h7.mono g2.le⟩, g1⟩
  exact ⟨n1, K2, w2, u2, h1, h2, h3, h4, g2.trans h5⟩
theorem run_equal_nil {t : TypeId} {ms : Array (String × TypeId)} (ht : P.underlying t = some (.interface ms)) (d : Nat) (w : World) : (Op.equalIn (d + 1) t .nilIface .nilIface).run P w = .ok true w := by
  simp only [Op.equalIn, Sem.run_bind, run_underlying' ht, Result.andThen_ok, Sem.run_pure]
theorem run_equal_nil' {t u : TypeId} {v : Value} {ms : Array (String × TypeId)} (ht : P.underlying t = some (.interface ms)) (d : Nat) (w : World) : (Op.equalIn (d + 1) t (.iface u v) .nilIface).run P w = .ok false w := by
  simp only [Op.equalIn, Sem.run_bind, run_underlying' ht, Result.andThen_ok, Sem.run_pure]
theorem ok_eqnil {op : BinOp} {t t2 : TypeId} {ms : Array (String × TypeId)} {x : Operand} {x' : AOpd} {y : IV} {ng b : Bool} (ht : P.underlying t = some (.interface ms)) (hop : eqOf op = some ng) (tx : trOpd x = some x') (hx : ev s.ρ x' = some (.iv y))
    (h : (y = .niliface ∧ b = true) ∨ (∃ u v, y = .iface u v ∧ b = false)) :
    OpOk P N ⟨d, .binOp op t x (.const .nilIface) t2, ty, ps, af, g⟩ s (.iv (.bool (if ng then !b else b))) s.σ := by
  refine .pure fun K a w hs => ?_
  have h1 := ev_rel hs tx hx
  cases h1 with
  | iv _ _ h1 =>
  generalize hcv : a.eval x = cv at h1
  have hc0 : a.eval (.const .nilIface) = .nilIface := rfl
  have he : (Op.equal t cv .nilIface).run P w = .ok b w ∧ (eqGuard op t x (.const .nilIface) cv .nilIface).run P w = .ok () w := by
    rcases h with ⟨rfl, rfl⟩ | ⟨u, v, rfl, rfl⟩
    · cases h1
      exact ⟨run_equal_nil ht 9999 w, by cases op <;> simp [eqGuard]⟩
    · cases h1
      exact ⟨run_equal_nil' ht 9999 w, by cases op <;> simp [eqGuard]⟩
  refine ⟨.bool (if ng then !b else b), ?_, .iv _ _ (.bool _)⟩
  cases op <;> simp [eqOf] at hop <;> subst hop
  · cases h1 <;> first | (rcases h with ⟨h, _⟩ | ⟨_, _, h, _⟩ <;> cases h; done) | (simp only [execOp, hcv, hc0, Sem.run_bind, he.2, Result.andThen_ok, binOp, he.1, Sem.run_pure]; rfl)
  · cases h1 <;> first | (rcases h with ⟨h, _⟩ | ⟨_, _, h, _⟩ <;> cases h; done) | (simp only [execOp, hcv, hc0, Sem.run_bind, he.2, Result.andThen_ok, binOp, he.1, Sem.run_pure]; rfl)
theorem ok_mkif {t : TypeId} {x : Operand} {x' : AOpd} {y : IV} (ht : ∃ d, P.underlying t = some d ∧ ∀ m, d ≠ .interface m) (tx : trOpd x = some x') (hx : ev s.ρ x' = some (.iv y)) :
    OpOk P N ⟨d, .makeInterface t x, ty, ps, af, g⟩ s (.iv (.iface t y)) s.σ := by
  refine .pure fun K a w hs => ?_
  have h1 := ev_rel hs tx hx
  cases h1 with
  | iv _ _ h1 =>
  obtain ⟨dd, hd, hne⟩ := ht
  refine ⟨.iface t (a.eval x), ?_, .iv _ _ (.iface t y _ h1)⟩
  simp only [execOp, Instr.makeInterface, Sem.run_bind, run_underlying' hd, Result.andThen_ok]
  cases dd <;> first | rfl | exact absurd rfl (hne _)
theorem tup2' {K : Kr} {w : World} {y : IV} {v : Value} (h : Rel K.I w y v) (b : Bool) : TRel K w (.tup [.iv y, .iv (.bool b)]) (.tuple #[v, .bool b]) := by
  refine .tup _ _ rfl fun q c u hc hu => ?_
  match q with
  | 0 => simp at hc hu; subst hc; subst hu; exact .iv _ _ h
  | 1 => simp at hc hu; subst hc; subst hu; exact .iv _ _ (.bool b)
  | q + 2 => simp at hc
theorem ok_tas {t xt : TypeId} {i : TypeInfo} {z : Value} {zi : IV} {x : Operand} {x' : AOpd} {y : IV} {r : TV} (ht : ∃ d, P.underlying t = some d ∧ ∀ m, d ≠ .interface m) (hi : P.info? t = some i) (hz : i.zero = some z) (hzr : ∀ I w, Rel I w zi z) (tx : trOpd x = some x') (hx : ev s.ρ x' = some (.iv y))
    (h : (∃ u v, y = .iface u v ∧ r = if u = t then .tup [.iv v, .iv (.bool true)] else .tup [.iv zi, .iv (.bool false)]) ∨ (y = .niliface ∧ r = .tup [.iv zi, .iv (.bool false)])) :
    OpOk P N ⟨d, .typeAssert x xt t true, ty, ps, af, g⟩ s r s.σ := by
  refine .pure fun K a w hs => ?_
  have h1 := ev_rel hs tx hx
  cases h1 with
  | iv _ _ h1 =>
  obtain ⟨dd, hd, hne⟩ := ht
  generalize hcv : a.eval x = cv at h1
  have hzv : (zeroValue t).run P w = .ok z w := by simp [zeroValue, typeInfo, hi, hz]
  rcases h with ⟨u, v, rfl, hr⟩ | ⟨rfl, hr⟩
  · cases h1 with
    | iface _ _ v1 hv =>
    by_cases hut : u = t
    · rw [if_pos hut] at hr; subst hr
      refine ⟨.tuple #[v1, .bool true], ?_, tup2' hv true⟩
      simp only [execOp, hcv, Instr.typeAssert, Sem.run_bind, run_underlying' hd, Result.andThen_ok]
      cases dd <;> first | (simp [hut]; done) | exact absurd rfl (hne _)
    · rw [if_neg hut] at hr; subst hr
      refine ⟨.tuple #[z, .bool false], ?_, tup2' (hzr _ _) false⟩
      simp only [execOp, hcv, Instr.typeAssert, Sem.run_bind, run_underlying' hd, Result.andThen_ok]
      cases dd <;> first | (simp [hut, hzv]; done) | exact absurd rfl (hne _)
  · subst hr
    cases h1
    refine ⟨.tuple #[z, .bool false], ?_, tup2' (hzr _ _) false⟩
    simp only [execOp, hcv, Instr.typeAssert, Sem.run_bind, run_underlying' hd, Result.andThen_ok]
    cases dd <;> first | (simp [hzv]; done) | exact absurd rfl (hne _)
theorem ok_slcH {t e : TypeId} {i : TypeInfo} {x hi : Operand} {x' h' : AOpd} {it it' : Item} {h : Int} {k n : Nat}
    (ht : P.underlying t = some (.slice e)) (hinf : P.info? e = some i) (tx : trOpd x = some x') (th : trOpt (some hi) (some h')) (hx : ev s.ρ x' = some (.lst k n)) (hk : lk s.σ k = some (n, it)) (eh : evOpt s.ρ (some h') = some (some h))
    (h0 : 0 ≤ h) (hit : truncI h.toNat it = some it') : OpOk P N ⟨d, .slice t x none (some hi) none, ty, ps, af, g⟩ s (.lst k (nxt s.σ k)) (upd s.σ k (nxt s.σ k, it')) := by
  refine .of fun K a w hs => ?_
  have g3 := ev_rel hs tx hx
  obtain ⟨A, len, cap, hA, hle, hcap, hown, hrel⟩ := truncI_rel hit (hs.slots.rel k n _ hk).2
  have hev : a.eval x = .slice A len cap := by
    generalize a.eval x = cv at g3
    cases g3
    exact hA
  rcases evOpt_rel hs th eh with ⟨e1, _⟩ | ⟨o', kk, m', e1, e2, e3⟩
  · cases e1
  injection e1 with e1; subst e1
  injection e2 with e2; subst e2
  have hb := run_hi (P := P) len cap kk h h0 (by omega) w
  have hadd := hs.slots.add (w' := w) k it' (.slice A h.toNat cap) none ⟨rfl, rfl, rfl, Nat.le_refl _, fun _ _ _ => rfl⟩ (fun b hb => by cases hb)
    (fun b hb => by
      rw [hown] at hb
      exact ⟨(hs.slots.imm b ⟨k, n, it, hk, hb⟩).2, .inr (.inr ⟨n, it, hk, hb⟩)⟩)
    (fun K' le _ _ => hrel.mono le (fun _ _ => rfl))
  have hnx := hs.slots.nxt k
  rw [hnx] at hadd
  have hA1 : (K.add k (.slice A h.toNat cap)).A k (nxt s.σ k) = .slice A h.toNat cap := by simp [Kr.add, hnx]
  refine ⟨K.add k (.slice A h.toNat cap), w, .slice A h.toNat cap, ?_, ?_, hadd.1, hadd.2⟩
  · simp [execOp, hev, e3, Instr.sliceAt, Instr.slice, run_underlying' ht, hb, sizeOf, typeInfo, hinf]
    intro hne
    cases A <;> simp [Addr.add]
  · have h9 := TRel.lst (K := K.add k (.slice A h.toNat cap)) (w := w) k (nxt s.σ k) (by simp [Kr.add, hnx])
    rw [hA1] at h9; exact h9

theorem ok_slcT {t e : TypeId} {i : TypeInfo} {x lo : Operand} {x' l' : AOpd} {it : Item} {e' : Nat} {cs : List TV} {l : Int} {k n p : Nat}
    (ht : P.underlying t = some (.slice e)) (hinf : P.info? e = some i) (tx : trOpd x = some x') (tl : trOpt (some lo) (some l')) (hx : ev s.ρ x' = some (.lst k n)) (hk : lk s.σ k = some (n, it)) (htc : tcells it = some (e', i.size, cs)) (el : evOpt s.ρ (some l') = some (some l))
    (h0 : 0 ≤ l) (hz : 0 < i.size) (h1 : l.toNat * i.size ≤ cs.length) : OpOk P N ⟨d, .slice t x (some lo) none none, ty, ps, af, g⟩ s (.lst p (nxt s.σ p)) (upd s.σ p (nxt s.σ p, .sub k n i.size l.toNat)) := by
  refine .of fun K a w hs => ?_
  have g3 := ev_rel hs tx hx
  have hV := (hs.slots.rel k n _ hk).1
  obtain ⟨m, cvs, hl, how, hr⟩ := tcells_rel htc (hs.slots.rel k n _ hk).2
  have hm : l.toNat ≤ m := by rw [hl] at h1; exact Nat.le_of_mul_le_mul_right h1 hz
  obtain ⟨A, cap, hA, hcap, _, _⟩ := ownsRow_take how hm
  have hev : a.eval x = .slice A m cap := by
    generalize a.eval x = cv at g3
    cases g3
    exact hA
  rcases evOpt_rel hs tl el with ⟨e1, _⟩ | ⟨o', kk, m', e1, e2, e3⟩
  · cases e1
  injection e1 with e1; subst e1
  injection e2 with e2; subst e2
  have hb := run_lo (P := P) m cap kk l h0 (by omega) w
  have hadd := hs.slots.add (w' := w) p (.sub k n i.size l.toNat) (.slice (if cap = l.toNat then A else A.map (·.add (l.toNat * i.size))) (m - l.toNat) (cap - l.toNat)) none ⟨rfl, rfl, rfl, Nat.le_refl _, fun _ _ _ => rfl⟩ (fun b hb => by cases hb)
    (fun b hb => by simp [own] at hb)
    (fun K' le _ _ => ⟨Nat.lt_of_lt_of_le (by omega) (le.2 k).1, A, m, cap, ((le.2 k).2 n (by omega)).trans hA, hm, hcap, rfl⟩)
  have hnx := hs.slots.nxt p
  rw [hnx] at hadd
  have hA1 : (K.add p (.slice (if cap = l.toNat then A else A.map (·.add (l.toNat * i.size))) (m - l.toNat) (cap - l.toNat))).A p (nxt s.σ p) = .slice (if cap = l.toNat then A else A.map (·.add (l.toNat * i.size))) (m - l.toNat) (cap - l.toNat) := by simp [Kr.add, hnx]
  refine ⟨_, w, .slice (if cap = l.toNat then A else A.map (·.add (l.toNat * i.size))) (m - l.toNat) (cap - l.toNat), ?_, ?_, hadd.1, hadd.2⟩
  · simp [execOp, hev, e3, Instr.sliceAt, Instr.slice, run_underlying' ht, hb, sizeOf, typeInfo, hinf]
  · have h9 := TRel.lst (K := K.add p (.slice (if cap = l.toNat then A else A.map (·.add (l.toNat * i.size))) (m - l.toNat) (cap - l.toNat))) (w := w) p (nxt s.σ p) (by simp [Kr.add, hnx])
    rw [hA1] at h9; exact h9

theorem clr_cells {K : Kr} {w : World} {z : Value} {y : IV} {cs : List TV} {cvs : List Value} {off n : Nat} (hy : ivCells z = some y.cells) (hl : cvs.length = cs.length) (ho : off + n * y.cells.length = cs.length)
    (hr : ∀ (q : Nat) (c : TV) (u : Value), cs[q]? = some c → cvs[q]? = some u → TRel K w c u ∧ u.oneCell' = true) :
    ∀ (q : Nat) (c : TV) (u : Value), (cs.take off ++ (flat (List.replicate n y)).map TV.iv)[q]? = some c → (splice cvs off (Builtin.zeroCells z.cells n).toList)[q]? = some u → TRel K w c u ∧ u.oneCell' = true := by
  intro q c u hc hu
  have c1 : z.cells.size = y.cells.length := (ivCells_rel hy K.I w).1
  have hzl : (Builtin.zeroCells z.cells n).toList.length = n * y.cells.length := by rw [zc_len, c1]
  rw [splice_get (by rw [hzl]; omega)] at hu
  by_cases hq : q < off
  · rw [List.getElem?_append_left (by simp; omega), List.getElem?_take_of_lt hq] at hc
    rw [if_neg (by omega)] at hu
    exact hr q c u hc hu
  · have htl : (cs.take off).length = off := by simp; omega
    rw [List.getElem?_append_right (by omega), htl, List.getElem?_map] at hc
    have hlt : q - off < n * y.cells.length := by
      rcases Nat.lt_or_ge (q - off) (n * y.cells.length) with h | h
      · exact h
      · rw [List.getElem?_eq_none (by rw [flat_replicate_len]; exact h)] at hc; simp at hc
    rw [flat_replicate _ _ _ hlt] at hc
    rw [if_pos ⟨by omega, by rw [hzl]; omega⟩] at hu
    obtain ⟨_, c0, h1, h2, h3⟩ := zc_get hy K.I w n (q - off) u hu
    rw [h1] at hc
    simp at hc
    subst hc
    exact ⟨.iv _ _ h2, h3⟩

theorem tup0_rel {K : Kr} {w : World} : TRel K w (.tup []) (.tuple #[]) := .tup [] #[] rfl (fun q c v hc => by simp at hc)

theorem ok_clr {t e : TypeId} {i : TypeInfo} {z : Value} {y : IV} {x : Operand} {x' : AOpd} {p m k n j e' : Nat} {it it' : Item} {cs : List TV} (ht : P.underlying t = some (.slice e)) (hi : P.info? e = some i) (hz : i.zero = some z) (hy : ivCells z = some y.cells)
    (hsz : y.cells.length = i.size) (h0 : 0 < i.size) (tx : trOpd x = some x') (hx : ev s.ρ x' = some (.lst p m)) (hp : lk s.σ p = some (m, .sub k n i.size j)) (hk : lk s.σ k = some (n, it)) (htc : tcells it = some (e', i.size, cs)) (hit : clrI j y it = some it') :
    OpOk P N ⟨d, .call { callee := .builtin .clear, args := #[x], argTypes := #[t] }, ty, ps, af, g⟩ s (.tup []) (upd s.σ k (n, it')) := by
  refine .of fun K a w hs => ?_
  have g3 := ev_rel hs tx hx
  obtain ⟨hnV, A, len, cap, hA, hjl, hlc, hv⟩ := (hs.slots.rel p m _ hp).2
  have hev : a.eval x = .slice (if cap = j then A else A.map (·.add (j * i.size))) (len - j) (cap - j) := by
    generalize a.eval x = cv at g3
    cases g3
    exact hv
  have hir := (hs.slots.rel k n _ hk).2
  obtain ⟨len', cvs, hl, how, hr⟩ := tcells_rel htc hir
  have hlen : len' = len := by
    obtain ⟨A', cap', h1, _⟩ := ownsRow_take how (Nat.le_refl _)
    rw [hA] at h1; injection h1 with _ h1 _; exact h1.symm
  subst hlen
  have hcvl : cvs.length = cs.length := by rw [how.1, hl]
  have hdv : cs.length / i.size = len' := by rw [hl]; exact Nat.mul_div_cancel _ h0
  have hjm : j * i.size + (len' - j) * i.size = len' * i.size := by rw [← Nat.add_mul]; congr 1; omega
  -- what the cleared item's cells are
  have htc' : tcells it' = some (e', i.size, cs.take (j * i.size) ++ (flat (List.replicate (len' - j) y)).map TV.iv) := by
    cases it with
    | list e1 s1 xs =>
      simp only [tcells, Option.some.injEq, Prod.mk.injEq] at htc
      obtain ⟨h91, h92, h93⟩ := htc
      obtain ⟨cvs', how', hss, hr'⟩ := hir
      have hxl : xs.length = len' := by
        obtain ⟨A', cap', h1, _⟩ := ownsRow_take how' (Nat.le_refl _)
        rw [hA] at h1; injection h1 with _ h1 _; exact h1.symm
      simp only [clrI] at hit
      split at hit
      · injection hit with hit; subst hit
        rw [h92] at hss
        simp only [tcells, flat_append, flat_takeN (fun x hx => (hss x hx).1), hxl, h91, h92, ← h93, List.map_append, List.map_take]
      · cases hit
    | tl e1 s1 cs1 =>
      simp only [tcells, Option.some.injEq, Prod.mk.injEq] at htc
      obtain ⟨h91, h92, h93⟩ := htc
      subst h93; subst h91
      simp only [clrI] at hit
      split at hit
      · injection hit with hit; subst hit
        simp only [tcells, h92, hdv]
      · cases hit
    | _ => simp [tcells] at htc
  -- the item in the world behind, if its row is there
  have fin : ∀ (K' : Kr) (w' : World) (cvs' : List Value), w'.ownsRow 0 e' i.size (K.A k n) len' cvs' → (∀ (q : Nat) (c : TV) (u : Value), (cs.take (j * i.size) ++ (flat (List.replicate (len' - j) y)).map TV.iv)[q]? = some c → cvs'[q]? = some u → TRel K' w' c u ∧ u.oneCell' = true) → IRel K' w' it' (K.A k n) := by
    intro K' w' cvs' how2 hr2
    cases it with
    | list e1 s1 xs =>
      obtain ⟨cvs0, how0, hss, hr0⟩ := hir
      have hxl : xs.length = len' := by
        obtain ⟨A', cap', h1, _⟩ := ownsRow_take how0 (Nat.le_refl _)
        rw [hA] at h1; injection h1 with _ h1 _; exact h1.symm
      simp only [clrI] at hit
      split at hit
      · injection hit with hit; subst hit
        simp only [tcells, Option.some.injEq, Prod.mk.injEq] at htc htc'
        obtain ⟨h91, h92, h93⟩ := htc
        obtain ⟨_, _, h94⟩ := htc'
        subst h91; subst h92
        refine ⟨cvs', ?_, ?_, ?_⟩
        · have : (xs.take j ++ List.replicate (xs.length - j) y).length = len' := by simp; omega
          rw [this]; exact how2
        · intro x1 hx1
          rcases List.mem_append.1 hx1 with h8 | h8
          · exact hss x1 (List.mem_of_mem_take h8)
          · obtain ⟨_, rfl⟩ := List.mem_replicate.1 h8
            exact ⟨hsz, (ivCells_rel hy K.I w).2.1⟩
        · intro q c u hq hu
          have := hr2 q (.iv c) u (by rw [← h94, List.getElem?_map, hq]; rfl) hu
          cases this.1 with
          | iv _ _ h9 => exact h9
      · cases hit
    | tl e1 s1 cs1 =>
      simp only [clrI] at hit
      split at hit
      · injection hit with hit; subst hit
        simp only [tcells, Option.some.injEq, Prod.mk.injEq] at htc htc'
        obtain ⟨h91, h92, h93⟩ := htc
        obtain ⟨_, _, h94⟩ := htc'
        subst h91; subst h92
        refine ⟨len', cvs', h0, ?_, how2, ?_⟩
        · rw [h94]; simp only [List.length_append, List.length_take, List.length_map, flat_replicate_len, hsz, hl]
          omega
        · rw [h94]; exact hr2
      · cases hit
    | _ => simp [tcells] at htc
  have hoB : own it' (K.A k n) = own it (K.A k n) := by rw [tcells_own htc, tcells_own htc']
  by_cases hj : len' = j
  · -- nothing to clear
    have hrun : (execOp a.eval ⟨d, .call { callee := .builtin .clear, args := #[x], argTypes := #[t] }, ty, ps, af, g⟩).run P w = .ok (.value (.tuple #[])) w := by
      have h00 : len' - j = 0 := by omega
      rw [h00] at hev
      generalize hAA : (if cap = j then A else A.map (·.add (j * i.size))) = AA at hev
      cases AA <;> simp [execOp, resolve, invoke, builtin, hev, Builtin.clear_, run_underlying' ht]
    obtain ⟨t1, t2⟩ := hs.slots.turn (w' := w) k n it it' hk none ⟨rfl, rfl, rfl, Nat.le_refl _, fun _ _ _ => rfl⟩ (fun b hb => by cases hb) (fun b hb => by rw [← hoB]; exact hb)
      (fun le => fin K w cvs how (by
        have h00 : len' - j = 0 := by omega
        intro q c u hq hu
        rw [h00] at hq
        simp only [List.replicate_zero, flat, List.flatMap_nil, List.map_nil, List.append_nil] at hq
        rw [List.getElem?_take] at hq
        split at hq
        · exact hr q c u hq hu
        · cases hq))
    exact ⟨K, w, _, hrun, tup0_rel, t1, t2⟩
  · rcases how.2 with ⟨h1, h2⟩ | ⟨gb, cap', cur, h1, hb0, hh, hle, hmx, hcs, htake⟩
    · omega
    rw [hA] at h1
    injection h1 with h1 h2 h3
    subst h1; subst h3
    have hne : ¬ cap = j := by omega
    rw [if_neg hne] at hev
    simp only [Option.map_some, Addr.add_mid, Nat.zero_add] at hev
    obtain ⟨c0, hc0⟩ : ∃ c0, len' - j = c0 + 1 := ⟨len' - j - 1, by omega⟩
    have hzl : (Builtin.zeroCells z.cells (len' - j)).toList.length = (len' - j) * i.size := by rw [zc_len, (ivCells_rel hy K.I w).1, hsz]
    have hmc : len' * i.size ≤ cur.size := by rw [hcs]; exact Nat.mul_le_mul_right _ hle
    have hst := run_storeCells_at P gb (j * i.size) e' (Builtin.zeroCells z.cells (len' - j)).toList 0 cur w hh (by rw [hzl]; omega) (fun u hu => by
      obtain ⟨q, hq⟩ := List.getElem?_of_mem hu
      obtain ⟨_, _, _, _, h9⟩ := zc_get hy K.I w _ q u hq
      exact h9)
    simp only [Nat.add_zero] at hst
    have hrun : (execOp a.eval ⟨d, .call { callee := .builtin .clear, args := #[x], argTypes := #[t] }, ty, ps, af, g⟩).run P w = .ok (.value (.tuple #[])) (w.setRow gb (splice cur.toList (j * i.size) (Builtin.zeroCells z.cells (len' - j)).toList).toArray) := by
      rw [hc0] at hev hst ⊢
      simp [execOp, resolve, invoke, builtin, hev, Builtin.clear_, run_underlying' ht, zeroValue, typeInfo, hi, hz, hst, splice]
    obtain ⟨t1, t2⟩ := hs.slots.turn (w' := w.setRow gb (splice cur.toList (j * i.size) (Builtin.zeroCells z.cells (len' - j)).toList).toArray) k n it it' hk (some gb) (setRow_grew w gb _)
      (fun b hb => by simp at hb; subst hb; rw [tcells_own htc, hA]; rfl) (fun b hb => by rw [← hoB]; exact hb)
      (fun le => fin K _ (splice cvs (j * i.size) (Builtin.zeroCells z.cells (len' - j)).toList) (by
        refine ⟨?_, .inr ⟨gb, cap, (splice cur.toList (j * i.size) (Builtin.zeroCells z.cells (len' - j)).toList).toArray, hA, hb0, setRow_heap w gb cur _ e' (0, 0) hh, hle, hmx, ?_, ?_⟩⟩
        · simp only [splice, List.length_append, List.length_take, List.length_drop, hzl, hcvl, hl]; omega
        · simp only [splice, List.size_toArray, List.length_append, List.length_take, List.length_drop, hzl, Array.length_toList]; omega
        · rw [← htake]
          exact take_splice (by rw [hzl]; omega) (by simp; omega)) (clr_cells hy hcvl (by rw [hsz, hl]; exact hjm) (fun q c u hq hu => ⟨(hr q c u hq hu).1.mono le, (hr q c u hq hu).2⟩)))
    exact ⟨K, _, _, hrun, tup0_rel, t1, t2⟩
end

/-! ### slices of lists as they are; the end of a list taken off -/
/-- What is known of a list's room. -/
def capOf (σ : Slots) (k n : Nat) : Nat := match lk σ (k + 1000003) with
  | some (_, .capI k' n' c) => if k' = k ∧ n' = n then c else 0
  | _ => 0
theorem capOf_le {K : Kr} {σ : Slots} {w : World} (hs : SlotsRel K σ w) {k n : Nat} {A : Option Addr} {len cap : Nat} (hA : K.A k n = .slice A len cap) : capOf σ k n ≤ cap := by
  unfold capOf
  split
  · rename_i m k' n' c hk
    split
    · rename_i hc
      obtain ⟨rfl, rfl⟩ := hc
      obtain ⟨_, A', len', cap', h1, h2⟩ := (hs.rel _ _ _ hk).2
      rw [hA] at h1; injection h1 with h1 h3 h4; omega
    · omega
  · omega
theorem run_bounds2 {P : Program} (len cap : Nat) {lo hi mx : Option Value} {l h m : Option Int} (hl : (lo = none ∧ l = none) ∨ ∃ k n, lo = some (.int k n) ∧ l = some n)
    (hh : (hi = none ∧ h = none) ∨ ∃ k n, hi = some (.int k n) ∧ h = some n) (hm : (mx = none ∧ m = none) ∨ (hi ≠ none ∧ ∃ k n, mx = some (.int k n) ∧ m = some n))
    (b1 : 0 ≤ l.getD 0) (b2 : l.getD 0 ≤ h.getD len) (b3 : h.getD len ≤ m.getD cap) (b4 : m.getD cap ≤ cap) (w : World) :
    (Instr.sliceBounds true len cap lo hi mx).run P w = .ok ((l.getD 0).toNat, (h.getD len).toNat, (m.getD cap).toNat) w := by
  rcases hm with ⟨rfl, rfl⟩ | ⟨hne, km, nm, rfl, rfl⟩
  · rcases hl with ⟨rfl, rfl⟩ | ⟨kl, nl, rfl, rfl⟩ <;> rcases hh with ⟨rfl, rfl⟩ | ⟨kh, nh, rfl, rfl⟩
    · simp [Instr.sliceBounds]
    · simp at b1 b2 b3 b4
      simp only [Instr.sliceBounds, Sem.run_bind, Sem.run_pure, Result.andThen_ok, run_sb kh nh cap _ ⟨b2, b3⟩]; simp
    · simp at b1 b2 b3 b4
      simp only [Instr.sliceBounds, Sem.run_bind, Sem.run_pure, Result.andThen_ok, run_sb kl nl len _ ⟨b1, b2⟩]; simp
    · simp at b1 b2 b3 b4
      simp only [Instr.sliceBounds, Sem.run_bind, Sem.run_pure, Result.andThen_ok, run_sb kh nh cap _ ⟨by omega, b3⟩, run_sb kl nl nh.toNat _ ⟨b1, by omega⟩]; simp
  · rcases hh with ⟨rfl, rfl⟩ | ⟨kh, nh, rfl, rfl⟩
    · exact absurd rfl hne
    · rcases hl with ⟨rfl, rfl⟩ | ⟨kl, nl, rfl, rfl⟩
      · simp at b1 b2 b3 b4
        simp only [Instr.sliceBounds, Sem.run_bind, Sem.run_pure, Result.andThen_ok, run_sb km nm cap _ ⟨by omega, b4⟩, run_sb kh nh nm.toNat _ ⟨by omega, by omega⟩]; simp
      · simp at b1 b2 b3 b4
        simp only [Instr.sliceBounds, Sem.run_bind, Sem.run_pure, Result.andThen_ok, run_sb km nm cap _ ⟨by omega, b4⟩, run_sb kh nh nm.toNat _ ⟨by omega, by omega⟩, run_sb kl nl nh.toNat _ ⟨b1, by omega⟩]; simp

section
variable {P : Program} {N : Nat} {s : St} {d : Option Tmp} {ty : TypeId} {ps : String} {af : Array Edge} {g : Option (Nat × Bool)}
theorem ok_slcL {t e : TypeId} {i : TypeInfo} {x : Operand} {lo hi mx : Option Operand} {x' : AOpd} {lo' hi' mx' : Option AOpd} {it : Item} {e' : Nat} {cs : List TV} {l h m : Option Int} {k n : Nat}
    (ht : P.underlying t = some (.slice e)) (hinf : P.info? e = some i) (tx : trOpd x = some x') (tl : trOpt lo lo') (th : trOpt hi hi') (tm : trOpt mx mx') (hmh : mx.isSome → hi.isSome)
    (hx : ev s.ρ x' = some (.lst k n)) (hk : lk s.σ k = some (n, it)) (htc : tcells it = some (e', i.size, cs)) (hz : 0 < i.size) (el : evOpt s.ρ lo' = some l) (eh : evOpt s.ρ hi' = some h) (em : evOpt s.ρ mx' = some m)
    (b1 : 0 ≤ l.getD 0) (b2 : l.getD 0 ≤ h.getD (cs.length / i.size : Nat)) (b3 : h.getD (cs.length / i.size : Nat) ≤ m.getD (max (cs.length / i.size) (capOf s.σ k n) : Nat)) (b4 : m.getD (max (cs.length / i.size) (capOf s.σ k n) : Nat) ≤ (max (cs.length / i.size) (capOf s.σ k n) : Nat)) :
    OpOk P N ⟨d, .slice t x lo hi mx, ty, ps, af, g⟩ s (.sl k n i.size (l.getD 0).toNat (h.getD (cs.length / i.size : Nat)).toNat m.isNone) s.σ := by
  refine .pure fun K a w hs => ?_
  have g3 := ev_rel hs tx hx
  have hV := (hs.slots.rel k n _ hk).1
  obtain ⟨len, cvs, hl, how, hr⟩ := tcells_rel htc (hs.slots.rel k n _ hk).2
  obtain ⟨A, cap, hA, hcap, _, _⟩ := ownsRow_take how (Nat.le_refl _)
  have hdv : cs.length / i.size = len := by rw [hl]; exact Nat.mul_div_cancel _ hz
  have hcc := capOf_le hs.slots hA
  rw [hdv] at b2 b3 b4 ⊢
  have hev : a.eval x = .slice A len cap := by
    generalize a.eval x = cv at g3
    cases g3
    exact hA
  have gen : ∀ {o : Option Operand} {n : Option Int}, ((o = none ∧ n = none) ∨ ∃ o' k m, o = some o' ∧ n = some m ∧ a.eval o' = .int k m) → (o.map a.eval = none ∧ n = none) ∨ ∃ k n', o.map a.eval = some (.int k n') ∧ n = some n' := by
    rintro o n (⟨rfl, rfl⟩ | ⟨o', k, m', rfl, rfl, e⟩)
    · exact .inl ⟨rfl, rfl⟩
    · exact .inr ⟨k, m', by simp [e], rfl⟩
  have gm := gen (evOpt_rel hs tm em)
  have hb3 : h.getD len ≤ m.getD cap ∧ m.getD cap ≤ cap := by
    cases m with
    | none => simp at b3 b4 ⊢; omega
    | some m => simp at b3 b4 ⊢; omega
  have hb := run_bounds2 (P := P) len cap (gen (evOpt_rel hs tl el)) (gen (evOpt_rel hs th eh)) (by
    rcases gm with gm | gm
    · exact .inl gm
    · refine .inr ⟨?_, gm⟩
      obtain ⟨k, n', e, _⟩ := gm
      cases mx with
      | none => simp at e
      | some o => cases hi with
        | none => simp at hmh
        | some o' => simp) b1 b2 hb3.1 hb3.2 w
  refine ⟨.slice (if (m.getD cap).toNat = (l.getD 0).toNat then A else A.map (·.add ((l.getD 0).toNat * i.size))) ((h.getD len).toNat - (l.getD 0).toNat) ((m.getD cap).toNat - (l.getD 0).toNat), ?_, ?_⟩
  · simp [execOp, hev, Instr.sliceAt, Instr.slice, run_underlying' ht, hb, sizeOf, typeInfo, hinf]
  · exact .sl k n i.size (l.getD 0).toNat (h.getD len).toNat m.isNone A len cap (m.getD cap).toNat (by omega) hA (by omega) (by omega) (by omega) (by cases m <;> simp)

/-- What stands behind a list's cut is taken off it. -/
theorem ok_appD {t e : TypeId} {i : TypeInfo} {x y : Operand} {x' y' : AOpd} {it it' : Item} {e' : Nat} {cs : List TV} {k n hi k2 n2 z2 j : Nat} {full : Bool} (ht : P.underlying t = some (.slice e)) (hinf : P.info? e = some i)
    (tx : trOpd x = some x') (tyy : trOpd y = some y') (hx : ev s.ρ x' = some (.sl k n i.size 0 hi true)) (hy : ev s.ρ y' = some (.sl k2 n2 z2 j j full)) (hk : lk s.σ k = some (n, it)) (htc : tcells it = some (e', i.size, cs)) (hz : 0 < i.size) (hit : truncI hi it = some it') :
    OpOk P N ⟨d, .call { callee := .builtin .append, args := #[x, y], argTypes := #[t, t] }, ty, ps, af, g⟩ s (.lst k (nxt s.σ k)) (upd (upd s.σ k (nxt s.σ k, it')) (k + 1000003) (nxt s.σ (k + 1000003), .capI k (nxt s.σ k) (cs.length / i.size))) := by
  refine .of fun K a w hs => ?_
  have g3 := ev_rel hs tx hx
  have g4 := ev_rel hs tyy hy
  obtain ⟨A, len, cap, hA, hle, hcap, hown, hrel⟩ := truncI_rel hit (hs.slots.rel k n _ hk).2
  obtain ⟨len', cvs, hl, how, hr⟩ := tcells_rel htc (hs.slots.rel k n _ hk).2
  have hll : len' = len := by
    obtain ⟨A', cap', h1, _⟩ := ownsRow_take how (Nat.le_refl _)
    rw [hA] at h1; injection h1 with _ h1 _; exact h1.symm
  subst hll
  have hdv : cs.length / i.size = len' := by rw [hl]; exact Nat.mul_div_cancel _ hz
  have hev : a.eval x = .slice A hi cap := by
    generalize a.eval x = cv at g3
    cases g3 with
    | sl _ _ _ _ _ _ A2 len2 cap2 c2 h hA2 hij hjc hcc hf =>
      rw [hA] at hA2; injection hA2 with h1 h2 h3
      subst h1; subst h3
      have := hf rfl; subst this
      rw [Nat.sub_zero, Nat.sub_zero, add0 _ _ _ _ rfl]
  obtain ⟨B, c, hev2⟩ : ∃ B c, a.eval y = .slice B 0 c := by
    generalize a.eval y = cv at g4
    cases g4 with
    | sl _ _ _ _ _ _ A2 len2 cap2 c2 h hA2 hij hjc hcc hf => exact ⟨_, _, by rw [Nat.sub_self]⟩
  have hadd := hs.slots.add (w' := w) k it' (.slice A hi cap) none ⟨rfl, rfl, rfl, Nat.le_refl _, fun _ _ _ => rfl⟩ (fun b hb => by cases hb)
    (fun b hb => by
      rw [hown] at hb
      exact ⟨(hs.slots.imm b ⟨k, n, it, hk, hb⟩).2, .inr (.inr ⟨n, it, hk, hb⟩)⟩)
    (fun K' le _ _ => hrel.mono le (fun _ _ => rfl))
  have hnx := hs.slots.nxt k
  rw [hnx] at hadd
  have hA1 : (K.add k (.slice A hi cap)).A k (nxt s.σ k) = .slice A hi cap := by simp [Kr.add, hnx]
  have hV1 : (K.add k (.slice A hi cap)).V k = nxt s.σ k + 1 := by simp [Kr.add, hnx]
  have hne : k ≠ k + 1000003 := by omega
  have hnx2 : nxt (upd s.σ k (nxt s.σ k, it')) (k + 1000003) = nxt s.σ (k + 1000003) := by simp only [nxt, lk_upd, if_neg hne]
  have hadd2 := hadd.1.add (w' := w) (k + 1000003) (.capI k (nxt s.σ k) len') undef none ⟨rfl, rfl, rfl, Nat.le_refl _, fun _ _ _ => rfl⟩ (fun b hb => by cases hb) (fun b hb => by simp [own] at hb)
    (fun K' le _ _ => ⟨Nat.lt_of_lt_of_le (by omega) (le.2 k).1, A, hi, cap, ((le.2 k).2 _ (by omega)).trans hA1, hcap⟩)
  rw [hadd.1.nxt, hnx2] at hadd2
  rw [hdv]
  refine ⟨_, w, .slice A hi cap, ?_, ?_, hadd2.1, hadd.2.trans hadd2.2⟩
  · cases A <;> cases B <;> simp [execOp, resolve, invoke, builtin, hev, hev2, Builtin.append_, run_underlying' ht, sizeOf, typeInfo, hinf, Builtin.lenOf, Builtin.firstCells, storeCells, loadCells, loadCellsFrom, show hi ≤ cap by omega]
  · have h9 := (TRel.lst (K := K.add k (.slice A hi cap)) (w := w) k (nxt s.σ k) (by omega)).mono hadd2.2.le
    rw [hA1] at h9; exact h9

/-- What stands behind a list's end is cleared. -/
theorem ok_clrL {t e : TypeId} {i : TypeInfo} {z : Value} {y : IV} {x : Operand} {x' : AOpd} {k n j m e' : Nat} {full : Bool} {it : Item} {cs : List TV} (ht : P.underlying t = some (.slice e)) (hi : P.info? e = some i) (hz : i.zero = some z) (hy : ivCells z = some y.cells)
    (hsz : y.cells.length = i.size) (h0 : 0 < i.size) (tx : trOpd x = some x') (hx : ev s.ρ x' = some (.sl k n i.size j m full)) (hk : lk s.σ k = some (n, it)) (htc : tcells it = some (e', i.size, cs)) (hb : cs.length ≤ j * i.size) :
    OpOk P N ⟨d, .call { callee := .builtin .clear, args := #[x], argTypes := #[t] }, ty, ps, af, g⟩ s (.tup []) (upd s.σ k (n, it)) := by
  refine .of fun K a w hs => ?_
  have g3 := ev_rel hs tx hx
  have hir := (hs.slots.rel k n _ hk).2
  obtain ⟨len, cvs, hl, how, hr⟩ := tcells_rel htc hir
  have hjl : len ≤ j := by rw [hl] at hb; exact Nat.le_of_mul_le_mul_right hb h0
  obtain ⟨A, cap, c, hA, hjm, hmc, hcc, hev⟩ : ∃ A cap c, K.A k n = .slice A len cap ∧ j ≤ m ∧ m ≤ c ∧ c ≤ cap ∧ a.eval x = .slice (if c = j then A else A.map (·.add (j * i.size))) (m - j) (c - j) := by
    obtain ⟨A', cap', h1, _⟩ := ownsRow_take how (Nat.le_refl _)
    generalize a.eval x = cv at g3
    cases g3 with
    | sl _ _ _ _ _ _ A2 len2 cap2 c2 h hA2 hij hjc hcc hf =>
      rw [h1] at hA2; injection hA2 with h3 h4 h5
      subst h3; subst h5
      exact ⟨_, _, _, h1, hij, hjc, hcc, rfl⟩
  by_cases hjm' : j = m
  · have hrun : (execOp a.eval ⟨d, .call { callee := .builtin .clear, args := #[x], argTypes := #[t] }, ty, ps, af, g⟩).run P w = .ok (.value (.tuple #[])) w := by
      have h00 : m - j = 0 := by omega
      rw [h00] at hev
      generalize hAA : (if c = j then A else A.map (·.add (j * i.size))) = AA at hev
      cases AA <;> simp [execOp, resolve, invoke, builtin, hev, Builtin.clear_, run_underlying' ht]
    obtain ⟨t1, t2⟩ := hs.slots.turn (w' := w) k n it it hk none ⟨rfl, rfl, rfl, Nat.le_refl _, fun _ _ _ => rfl⟩ (fun b hb => by cases hb) (fun b hb => hb) (fun le => hir.mono le (fun _ _ => rfl))
    exact ⟨K, w, _, hrun, tup0_rel, t1, t2⟩
  · rcases how.2 with ⟨h1, h2⟩ | ⟨gb, cap', cur, h1, hb0, hh, hle, hmx, hcs, htake⟩
    · rw [hA] at h1; injection h1 with _ _ h1; omega
    rw [hA] at h1
    injection h1 with h1 h2 h3
    subst h1; subst h3
    rw [if_neg (by omega)] at hev
    simp only [Option.map_some, Addr.add_mid, Nat.zero_add] at hev
    obtain ⟨c0, hc0⟩ : ∃ c0, m - j = c0 + 1 := ⟨m - j - 1, by omega⟩
    have hzl : (Builtin.zeroCells z.cells (m - j)).toList.length = (m - j) * i.size := by rw [zc_len, (ivCells_rel hy K.I w).1, hsz]
    have hmm : j * i.size + (m - j) * i.size = m * i.size := by rw [← Nat.add_mul]; congr 1; omega
    have hmc' : m * i.size ≤ cur.size := by rw [hcs]; exact Nat.mul_le_mul_right _ (by omega)
    have hlj : len * i.size ≤ j * i.size := Nat.mul_le_mul_right _ hjl
    have hst := run_storeCells_at P gb (j * i.size) e' (Builtin.zeroCells z.cells (m - j)).toList 0 cur w hh (by rw [hzl]; omega) (fun u hu => by
      obtain ⟨q, hq⟩ := List.getElem?_of_mem hu
      obtain ⟨_, _, _, _, h9⟩ := zc_get hy K.I w _ q u hq
      exact h9)
    simp only [Nat.add_zero] at hst
    have hrun : (execOp a.eval ⟨d, .call { callee := .builtin .clear, args := #[x], argTypes := #[t] }, ty, ps, af, g⟩).run P w = .ok (.value (.tuple #[])) (w.setRow gb (splice cur.toList (j * i.size) (Builtin.zeroCells z.cells (m - j)).toList).toArray) := by
      rw [hc0] at hev hst ⊢
      simp [execOp, resolve, invoke, builtin, hev, Builtin.clear_, run_underlying' ht, zeroValue, typeInfo, hi, hz, hst, splice]
    have hnew : (w.setRow gb (splice cur.toList (j * i.size) (Builtin.zeroCells z.cells (m - j)).toList).toArray).ownsRow 0 e' i.size (K.A k n) len cvs := by
      refine ⟨how.1, .inr ⟨gb, cap, (splice cur.toList (j * i.size) (Builtin.zeroCells z.cells (m - j)).toList).toArray, hA, hb0, setRow_heap w gb cur _ e' (0, 0) hh, hle, hmx, ?_, ?_⟩⟩
      · simp only [splice, List.size_toArray, List.length_append, List.length_take, List.length_drop, hzl, Array.length_toList]; omega
      · rw [← htake]
        apply List.ext_getElem?
        intro q
        by_cases hq : q < len * i.size
        · rw [List.getElem?_take_of_lt hq, List.getElem?_take_of_lt hq]
          rw [splice_get (by rw [hzl]; simp; omega), if_neg (by omega)]
        · rw [List.getElem?_eq_none (by simp; omega), List.getElem?_eq_none (by simp; omega)]
    obtain ⟨t1, t2⟩ := hs.slots.turn (w' := w.setRow gb (splice cur.toList (j * i.size) (Builtin.zeroCells z.cells (m - j)).toList).toArray) k n it it hk (some gb) (setRow_grew w gb _)
      (fun b hb => by simp at hb; subst hb; rw [tcells_own htc, hA]; rfl) (fun b hb => hb)
      (fun le => by
        cases it with
        | list e1 s1 xs =>
          obtain ⟨cvs0, how0, hss, hr0⟩ := hir
          simp only [tcells, Option.some.injEq, Prod.mk.injEq] at htc
          obtain ⟨h91, h92, h93⟩ := htc
          subst h91; subst h92
          have hxl : xs.length = len := by
            obtain ⟨A', cap', h1, _⟩ := ownsRow_take how0 (Nat.le_refl _)
            rw [hA] at h1; injection h1 with _ h1 _; exact h1.symm
          refine ⟨cvs, by rw [hxl]; exact hnew, hss, fun q c1 u hq hu => ?_⟩
          have := (hr q (.iv c1) u (by rw [← h93, List.getElem?_map, hq]; rfl) hu).1.mono le
          cases this with
          | iv _ _ h9 => exact h9
        | tl e1 s1 cs1 =>
          simp only [tcells, Option.some.injEq, Prod.mk.injEq] at htc
          obtain ⟨h91, h92, h93⟩ := htc
          subst h91; subst h92; subst h93
          exact ⟨len, cvs, h0, hl, hnew, fun q c1 u hq hu => ⟨(hr q c1 u hq hu).1.mono le, (hr q c1 u hq hu).2⟩⟩
        | _ => simp [tcells] at htc)
    exact ⟨K, _, _, hrun, tup0_rel, t1, t2⟩
end
end Go.Proofs.YtdlgenppdgkacaaGreatDoor.Ag
