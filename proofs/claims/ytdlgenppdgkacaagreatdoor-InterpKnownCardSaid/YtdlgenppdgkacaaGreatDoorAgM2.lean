/- Lists made longer by what may be the call's own, literals of the call's own; maps; functions made; arrays. -/
import Derived.Test.YtdlgenppdgkacaaGreatDoorAgM
import Derived.MapKept
set_option linter.unusedVariables false
set_option linter.unusedSimpArgs false
namespace Go.Proofs.YtdlgenppdgkacaaGreatDoor.Ag
open Go.RowKit (Below)

section
variable {P : Program} {N : Nat} {s : St} {d : Option Tmp} {ty : TypeId} {ps : String} {af : Array Edge} {g : Option (Nat × Bool)}

/-! ### append -/
def dstT (σ : Slots) (k0 e sz : Nat) : TV → Option (Nat × List TV)
  | .iv .nil => some (k0, [])
  | .lst k n => match lk σ k with
    | some (n', it) => if n = n' then match tcells it with
        | some (e', sz', cs) => if e = e' ∧ sz = sz' then some (k, cs) else none
        | none => none
      else none
    | none => none
  | _ => none
/-- How many elements, and their cells. -/
def srcT (σ : Slots) (sz : Nat) : TV → Option (Nat × List TV)
  | .iv (.slice ys) => if oneSize sz ys then some (ys.length, (flat ys).map .iv) else none
  | .iv .nil => some (0, [])
  | .lst k n => match lk σ k with
    | some (n', .froz ys) => if n = n' ∧ oneSize sz ys = true then some (ys.length, (flat ys).map .iv) else none
    | some (n', it) => if n = n' then match tcells it with
        | some (_, sz', cs) => if sz = sz' then some (cs.length / sz, cs) else none
        | none => none
      else none
    | none => none
  | _ => none
theorem srcT_rel {K : Kr} {σ : Slots} {w : World} (hs : SlotsRel K σ w) {t : TV} {v : Value} (r : TRel K w t v) {m sz : Nat} {ds : List TV} (h : srcT σ sz t = some (m, ds)) (h0 : 0 < sz) :
    ∃ a c, v = .slice a m c ∧ ds.length = m * sz ∧ (m = 0 ∨ ∃ (ad : Addr) (news : List Value), a = some ad ∧ news.length = m * sz ∧ (∀ (j : Nat) (u : Value), news[j]? = some u → w.cell? (ad.add j) = some u) ∧ (∀ u ∈ news, u.oneCell' = true) ∧
      ∀ (q : Nat) (c : TV) (u : Value), ds[q]? = some c → news[q]? = some u → TRel K w c u) := by
  have fromIV : ∀ (ys : List IV) (v : Value), Rel K.I w (.slice ys) v → oneSize sz ys = true → ∃ a c, v = .slice a ys.length c ∧ ((flat ys).map TV.iv).length = ys.length * sz ∧ (ys.length = 0 ∨ ∃ (ad : Addr) (news : List Value), a = some ad ∧ news.length = ys.length * sz ∧ (∀ (j : Nat) (u : Value), news[j]? = some u → w.cell? (ad.add j) = some u) ∧ (∀ u ∈ news, u.oneCell' = true) ∧
      ∀ (q : Nat) (c : TV) (u : Value), ((flat ys).map TV.iv)[q]? = some c → news[q]? = some u → TRel K w c u) := by
    intro ys v hv ho
    have hl : ((flat ys).map TV.iv).length = ys.length * sz := by simp [flat_len (fun x hx => (oneSize_mem ho x hx).1)]
    obtain ⟨a, c, h1, h2⟩ := srcOf_rel (sz := sz) hs (.iv _ _ hv) (t := .iv (.slice ys)) rfl ho
    refine ⟨a, c, h1, hl, ?_⟩
    rcases h2 with rfl | ⟨ad, news, h3, h4, h5, h6, h7⟩
    · exact .inl rfl
    · refine .inr ⟨ad, news, h3, h4, h5, h6, ?_⟩
      intro q c u hc hu
      simp only [List.getElem?_map, Option.map_eq_some_iff] at hc
      obtain ⟨y, hy, rfl⟩ := hc
      exact .iv _ _ (h7 q y u hy hu)
  unfold srcT at h
  split at h
  · rename_i ys
    split at h
    · rename_i ho
      simp only [Option.some.injEq, Prod.mk.injEq] at h
      obtain ⟨rfl, rfl⟩ := h
      cases r with
      | iv _ _ r => exact fromIV ys v r ho
    · cases h
  · simp only [Option.some.injEq, Prod.mk.injEq] at h
    obtain ⟨rfl, rfl⟩ := h
    cases r with
    | iv _ _ r => cases r; exact ⟨none, 0, rfl, by simp, .inl rfl⟩
  · rename_i k n
    split at h
    · rename_i n' ys hk
      split at h
      · rename_i hc
        obtain ⟨rfl, ho⟩ := hc
        simp only [Option.some.injEq, Prod.mk.injEq] at h
        obtain ⟨rfl, rfl⟩ := h
        cases r
        exact fromIV ys _ (hs.rel k n _ hk).2 ho
      · cases h
    · rename_i n' it _ hk
      split at h
      · rename_i hn; subst hn
        split at h
        · rename_i e' sz' cs htc
          split at h
          · rename_i hsz; subst hsz
            simp only [Option.some.injEq, Prod.mk.injEq] at h
            obtain ⟨rfl, rfl⟩ := h
            cases r
            obtain ⟨m, cvs, hl, how, hr⟩ := tcells_rel htc (hs.rel k n _ hk).2
            have hm : cs.length / sz = m := by rw [hl]; exact Nat.mul_div_cancel m h0
            rw [hm]
            rcases how.2 with ⟨h1, h2⟩ | ⟨gb, cap, cur, h1, _, hh, hle, _, hcs, htake⟩
            · exact ⟨none, 0, by rw [h1, h2], hl, .inl h2⟩
            · refine ⟨_, cap, h1, hl, .inr ⟨⟨gb, 0, none⟩, cvs, rfl, how.1, ?_, ?_, fun q c u hc hu => (hr q c u hc hu).1⟩⟩
              · intro j u hj
                have hjl : j < m * sz := by have := (List.getElem?_eq_some_iff.1 hj).1; rw [how.1] at this; exact this
                rw [Addr.add_mid, Nat.zero_add]
                rw [← htake, List.getElem?_take_of_lt hjl] at hj
                simp only [Array.getElem?_toList] at hj
                simp [World.cell?, hh, hj]
              · intro u hu
                obtain ⟨j, hj⟩ := List.getElem?_of_mem hu
                have hjl : j < cs.length := by have := (List.getElem?_eq_some_iff.1 hj).1; rw [how.1] at this; omega
                exact (hr j _ u (List.getElem?_eq_getElem hjl) hj).2
          · cases h
        · cases h
      · cases h
    · cases h
  · cases h

theorem ok_appT {t e : TypeId} {i : TypeInfo} {z : Value} {k0 k m : Nat} {x y : Operand} {x' y' : AOpd} {v u : TV} {cs ds : List TV} (ht : P.underlying t = some (.slice e)) (hi : P.info? e = some i) (hz : i.zero = some z)
    (hzs : z.cells.size = i.size) (h0 : 0 < i.size) (hb0 : 0 < i.bytes) (tx : trOpd x = some x') (tyy : trOpd y = some y') (hx : ev s.ρ x' = some v) (hy : ev s.ρ y' = some u)
    (hd : dstT s.σ k0 e i.size v = some (k, cs)) (hsrc : srcT s.σ i.size u = some (m, ds)) (hlen : (cs.length / i.size + m) * i.bytes ≤ 140737488355328) :
    OpOk P N ⟨d, .call { callee := .builtin .append, args := #[x, y], argTypes := #[t, t] }, ty, ps, af, g⟩ s (.lst k (nxt s.σ k)) (upd s.σ k (nxt s.σ k, .tl e i.size (cs ++ ds))) := by
  refine .of fun K a w hs => ?_
  have hv := ev_rel hs tx hx
  obtain ⟨A, c, hu, hdl, hnews⟩ := srcT_rel hs.slots (ev_rel hs tyy hy) hsrc h0
  obtain ⟨vv, cvs, n1, hvv, hcl, how, hr, hplace⟩ : ∃ vv cvs n1, a.eval x = vv ∧ cs.length = n1 * i.size ∧ w.ownsRow 0 e i.size vv n1 cvs ∧
      (∀ (q : Nat) (c : TV) (u : Value), cs[q]? = some c → cvs[q]? = some u → TRel K w c u ∧ u.oneCell' = true) ∧ (∀ b, vv.ownBlock = some b → ∃ n it', lk s.σ k = some (n, it') ∧ own it' (K.A k n) = some b) := by
    unfold dstT at hd
    split at hd
    · simp only [Option.some.injEq, Prod.mk.injEq] at hd
      obtain ⟨rfl, rfl⟩ := hd
      cases hv with
      | iv _ _ hv =>
      generalize hcv : a.eval x = cv at hv
      cases hv
      exact ⟨_, [], 0, rfl, by simp, ⟨by simp, .inl ⟨rfl, rfl⟩⟩, fun q c u hq => by simp at hq, fun b hb => by simp [Value.ownBlock] at hb⟩
    · rename_i k' n
      split at hd
      · rename_i n' it hk
        split at hd
        · rename_i hn; subst hn
          split at hd
          · rename_i e' sz' cs' htc
            split at hd
            · rename_i hc
              obtain ⟨rfl, rfl⟩ := hc
              simp only [Option.some.injEq, Prod.mk.injEq] at hd
              obtain ⟨rfl, rfl⟩ := hd
              obtain ⟨n1, cvs, hl, how, hr⟩ := tcells_rel htc (hs.slots.rel k' n _ hk).2
              generalize hcv : a.eval x = cv at hv
              cases hv
              exact ⟨_, cvs, n1, rfl, hl, how, hr, fun b hb => ⟨n, _, hk, by rw [tcells_own htc]; exact hb⟩⟩
            · cases hd
          · cases hd
        · cases hd
      · cases hd
    · cases hd
  have hn1 : cs.length / i.size = n1 := by rw [hcl]; exact Nat.mul_div_cancel n1 h0
  rw [hn1] at hlen
  have hl1 : n1 + m ≤ 140737488355328 := Nat.le_trans (Nat.le_mul_of_pos_right _ hb0) hlen
  have hmax : n1 + m ≤ maxLen := by unfold maxLen; omega
  obtain ⟨v1, w1, news, hrun, hown, hgrown, hat, hnl, hnr⟩ : ∃ (v1 : Value) (w1 : World) (news : List Value), (Builtin.append_ #[t, t] ty #[vv, .slice A m c]).run P w = .ok v1 w1 ∧ w1.ownsRow 0 e i.size v1 (n1 + m) (cvs ++ news) ∧ w.grownBy w1 vv.ownBlock ∧
      (v1.ownBlock = vv.ownBlock ∨ v1.ownBlock = some w.heap.size) ∧ news.length = m * i.size ∧ ∀ (q : Nat) (c : TV) (u : Value), ds[q]? = some c → news[q]? = some u → TRel K w c u ∧ u.oneCell' = true := by
    rcases hnews with h0' | ⟨ad, news, rfl, e1, e2, e3, e4⟩
    · subst h0'
      have hds : ds = [] := List.eq_nil_of_length_eq_zero (by simpa using hdl)
      subst hds
      refine ⟨vv, w, [], ?_, by simpa using how, ⟨rfl, rfl, rfl, Nat.le_refl _, fun _ _ _ => rfl⟩, .inl rfl, by simp, fun q c u hq => by simp at hq⟩
      rcases how.2 with ⟨rfl, hn⟩ | ⟨gb, cap, cur, rfl, _, _, hnc, _⟩
      · subst hn
        cases A <;> simp [Builtin.append_, run_underlying' ht, sizeOf, typeInfo, hi, Builtin.lenOf, Builtin.firstCells, loadCells, loadCellsFrom]
      · cases A <;> simp [Builtin.append_, run_underlying' ht, sizeOf, typeInfo, hi, Builtin.lenOf, Builtin.firstCells, hnc, storeCells, loadCells, loadCellsFrom]
    · obtain ⟨v1, w1, hr1, h2, h3, _, h5⟩ := run_append_own_at (P := P) w 0 t ty e i z i.size i.bytes ht hi hz rfl rfl hzs h0 vv n1 cvs how ad m c news e1 e2 e3 hmax hlen (Nat.zero_le _)
      exact ⟨v1, w1, news, hr1, h2, h3, h5, e1, fun q c u hc hu => ⟨e4 q c u hc hu, e3 u (List.mem_of_getElem? hu)⟩⟩
  have gr := Grew.ofGrownBy hgrown
  have hadd := hs.slots.add (w' := w1) k (.tl e i.size (cs ++ ds)) v1 vv.ownBlock gr hplace (fun b hb => by
      rw [tl_own] at hb
      have hlt : b < w1.heap.size := by
        rcases hown.2 with ⟨h1, _⟩ | ⟨gb, cap, cur, h1, _, hh, _⟩
        · rw [h1] at hb; simp [Value.ownBlock] at hb
        · rw [h1] at hb; simp [Value.ownBlock] at hb; subst hb
          exact (Array.getElem?_eq_some_iff.1 hh).1
      refine ⟨hlt, ?_⟩
      rcases hat with h1 | h1
      · exact .inr (.inl (h1.symm.trans hb))
      · rw [h1] at hb; injection hb with hb; exact .inl (by omega))
    (fun K' le _ _ => by
      refine ⟨n1 + m, cvs ++ news, h0, by rw [List.length_append, hcl, hdl, Nat.add_mul], hown, ?_⟩
      intro q c u hq hu
      by_cases hlt : q < cs.length
      · rw [List.getElem?_append_left hlt] at hq
        rw [List.getElem?_append_left (by rw [how.1]; omega)] at hu
        exact ⟨(hr q c u hq hu).1.mono le, (hr q c u hq hu).2⟩
      · rw [List.getElem?_append_right (by omega)] at hq
        rw [List.getElem?_append_right (by rw [how.1]; omega), how.1, ← hcl] at hu
        exact ⟨(hnr _ c u hq hu).1.mono le, (hnr _ c u hq hu).2⟩)
  rw [hs.slots.nxt k] at hadd
  have hrel := TRel.lst (K := K.add k v1) (w := w1) k (nxt s.σ k) (by simp [Kr.add, hs.slots.nxt k])
  have hA1 : (K.add k v1).A k (nxt s.σ k) = v1 := by simp [Kr.add, hs.slots.nxt k]
  rw [hA1] at hrel
  refine ⟨K.add k v1, w1, v1, ?_, hrel, hadd.1, hadd.2⟩
  simp [execOp, resolve, invoke, builtin, hvv, hu, hrun]

/-! ### a literal of the call's own -/
def litCells (σ : Slots) (sz : Nat) : List TV → Option (List TV)
  | [] => some []
  | v :: vs => match cellsOf σ v, litCells σ sz vs with
    | some cs, some r => if cs.length = sz then some (cs ++ r) else none
    | _, _ => none
theorem litCells_rel {K : Kr} {σ : Slots} {w : World} {sz : Nat} (hs : SlotsRel K σ w) : ∀ {vs : List TV} {us : List Value} {cs : List TV}, vs.length = us.length → litCells σ sz vs = some cs →
    (∀ (q : Nat) (c : TV) (v : Value), vs[q]? = some c → us[q]? = some v → TRel K w c v) →
    cs.length = vs.length * sz ∧ (us.flatMap fun v => v.cells.toList).length = cs.length ∧ (∀ v ∈ us, v.cells.size = sz) ∧
      ∀ (q : Nat) (c : TV) (u : Value), cs[q]? = some c → (us.flatMap fun v => v.cells.toList)[q]? = some u → TRel K w c u ∧ u.oneCell' = true
  | [], [], cs, _, h, _ => by simp [litCells] at h; subst h; exact ⟨by simp, rfl, fun v hv => by simp at hv, fun q c u hc => by simp at hc⟩
  | v :: vs, u :: us, cs, hl, h, hr => by
    simp only [litCells] at h
    split at h
    · rename_i cs1 r h1 h2
      split at h
      · rename_i hc
        injection h with h; subst h
        obtain ⟨a1, a2, a3, a4⟩ := litCells_rel hs (vs := vs) (us := us) (by simpa using hl) h2 (fun q c u hc hu => hr (q + 1) c u (by simpa using hc) (by simpa using hu))
        obtain ⟨c1, c2⟩ := cellsOf_rel hs (hr 0 v u rfl rfl) h1
        have e1 : u.cells.toList.length = cs1.length := by simpa using c1
        refine ⟨by simp [a1, hc, Nat.add_mul]; omega, by simp only [List.flatMap_cons, List.length_append, a2, e1], ?_, ?_⟩
        · intro x hx
          rcases List.mem_cons.1 hx with rfl | hx
          · omega
          · exact a3 x hx
        · intro q c x hcq hx
          simp only [List.flatMap_cons] at hx
          by_cases hq : q < cs1.length
          · rw [List.getElem?_append_left hq] at hcq
            rw [List.getElem?_append_left (by omega)] at hx
            exact c2 q c x hcq (by simpa using hx)
          · rw [List.getElem?_append_right (by omega)] at hcq
            rw [List.getElem?_append_right (by omega), e1] at hx
            exact a4 _ c x hcq hx
      · cases h
    · cases h
  | [], _ :: _, cs, hl, _, _ => by simp at hl
  | _ :: _, [], cs, hl, _, _ => by simp at hl

theorem ok_blit {t e : TypeId} {k : Nat} {i : TypeInfo} {z : Value} {ops : List Operand} {r : List AOpd} {vs : List TV} {cs : List TV} (ht : P.underlying t = some (.slice e)) (hi : P.info? e = some i) (hz : i.zero = some z)
    (h0 : 0 < i.size) (hsm : ops.length * i.size ≤ 2 ^ 24) (hne : ops ≠ []) (tr : ops.mapM trOpd = some r) (he : evAll s.ρ r = some vs) (hl : litCells s.σ i.size vs = some cs) :
    OpOk P N ⟨d, .buildSlice t ops.length (partsInOrder ops).toArray, ty, ps, af, g⟩ s (.lst k (nxt s.σ k)) (upd s.σ k (nxt s.σ k, .tl e i.size cs)) := by
  refine .of fun K a w hs => ?_
  obtain ⟨e1, e2⟩ := evAll_rel hs ops r vs tr he
  have e1' : vs.length = (ops.map a.eval).length := by simpa using e1
  obtain ⟨f0, f1, f2, f3⟩ := litCells_rel hs.slots e1' hl e2
  have hfill := Go.Great.fill_whole h0 (ops.map a.eval) ((Array.range (ops.length * i.size)).map (z.cells[· % z.cells.size]!)) f2 (by simp)
  have hlo : 0 < ops.length := by cases ops; exact absurd rfl hne; simp
  have hpos : 0 < ops.length * i.size := Nat.mul_pos hlo h0
  have hparts : ((partsInOrder ops).toArray.map fun (x : Nat × Operand) => (x.1, a.eval x.2)).toList = ((ops.map a.eval).zipIdx 0).map fun x => (x.2, x.1) := by
    simp only [partsInOrder, List.map_toArray, List.map_map, List.zipIdx_map]
    rfl
  have hrun := run_buildSlice (P := P) w t e ops.length ((partsInOrder ops).toArray.map fun (x : Nat × Operand) => (x.1, a.eval x.2)) _ i z ht hi hz (by omega) (by omega) (by rw [hparts]; exact hfill)
  generalize hC : ((ops.map a.eval).flatMap fun v => v.cells.toList) = C at hrun f1 f3
  have hvl : vs.length = ops.length := by simpa using e1'
  have hle : ops.length ≤ 2 ^ 24 := Nat.le_trans (Nat.le_mul_of_pos_right _ h0) hsm
  have hadd := hs.slots.add (w' := w.alloc (.cells C.toArray e)) k (.tl e i.size cs) (.slice (some ⟨w.heap.size, 0, none⟩) ops.length ops.length) none (Grew.alloc w _ none) (fun b hb => by cases hb)
    (fun b hb => by simp [own, Value.ownBlock] at hb; subst hb; exact ⟨by simp, .inl (Nat.le_refl _)⟩)
    (fun K' le _ _ => ⟨ops.length, C, h0, by rw [f0, hvl], ⟨by rw [f1, f0, hvl], .inr ⟨w.heap.size, ops.length, C.toArray, rfl, Nat.zero_le _, heap_last w _, Nat.le_refl _, by unfold maxLen; omega, by simp [f1, f0, hvl], by
      rw [List.take_of_length_le]; simp [f1, f0, hvl]⟩⟩, fun q c u hc hu => ⟨(f3 q c u hc hu).1.mono le, (f3 q c u hc hu).2⟩⟩)
  rw [hs.slots.nxt k] at hadd
  have hrel := TRel.lst (K := K.add k (.slice (some ⟨w.heap.size, 0, none⟩) ops.length ops.length)) (w := w.alloc (.cells C.toArray e)) k (nxt s.σ k) (by simp [Kr.add, hs.slots.nxt k])
  have hA1 : (K.add k (.slice (some ⟨w.heap.size, 0, none⟩) ops.length ops.length)).A k (nxt s.σ k) = .slice (some ⟨w.heap.size, 0, none⟩) ops.length ops.length := by simp [Kr.add, hs.slots.nxt k]
  rw [hA1] at hrel
  refine ⟨_, _, _, ?_, hrel, hadd.1, hadd.2⟩
  simp only [execOp, Sem.run_bind, hrun]; rfl

/-! ### lengths -/
def lenT (σ : Slots) : TV → Option Int
  | .lst k n => match lk σ k with
    | some (n', .tl _ sz cs) => if n = n' then some ((cs.length / sz : Nat) : Int) else none
    | _ => none
  | _ => none
def lenM (σ : Slots) : TV → Option Int
  | .iv .nilmap => some 0
  | .mp k n => match lk σ k with
    | some (n', .map _ es) => if n = n' then some (es.length : Int) else none
    | _ => none
  | _ => none
theorem ok_lenT {t e : TypeId} {x : Operand} {x' : AOpd} {v : TV} {n : Int} (ht : P.underlying t = some (.slice e)) (tx : trOpd x = some x') (hx : ev s.ρ x' = some v) (h : lenT s.σ v = some n) :
    OpOk P N ⟨d, .call { callee := .builtin .len, args := #[x], argTypes := #[t] }, ty, ps, af, g⟩ s (.iv (.int .i64 n)) s.σ := by
  refine .pure fun K w0 w hs => ?_
  have hr := ev_rel hs tx hx
  unfold lenT at h
  split at h
  · rename_i k m
    split at h
    · rename_i n' e' sz cs hk
      split at h
      · rename_i hn; subst hn
        injection h with h; subst h
        obtain ⟨len, cvs, h0, hl, how, _⟩ := (hs.slots.rel k m _ hk).2
        have hm : cs.length / sz = len := by rw [hl]; exact Nat.mul_div_cancel len h0
        generalize hcv : w0.eval x = cv at hr
        have hA : ∃ a c, K.A k m = .slice a len c := by
          rcases how.2 with ⟨h1, h2⟩ | ⟨gb, cap, cur, h1, _⟩
          · exact ⟨none, 0, by rw [h1, h2]⟩
          · exact ⟨_, cap, h1⟩
        obtain ⟨a, c, hA⟩ := hA
        cases hr
        rw [hA] at hcv
        rw [hm]
        exact ⟨.int .i64 len, by simp [execOp, resolve, invoke, builtin, Builtin.len_, hcv, run_underlying' ht, goInt], .iv _ _ (.int _ _)⟩
      · cases h
    · cases h
  · cases h
theorem ok_lenM {t kt et : TypeId} {x : Operand} {x' : AOpd} {v : TV} {n : Int} (ht : P.underlying t = some (.map kt et)) (tx : trOpd x = some x') (hx : ev s.ρ x' = some v) (h : lenM s.σ v = some n) :
    OpOk P N ⟨d, .call { callee := .builtin .len, args := #[x], argTypes := #[t] }, ty, ps, af, g⟩ s (.iv (.int .i64 n)) s.σ := by
  refine .pure fun K w0 w hs => ?_
  have hr := ev_rel hs tx hx
  unfold lenM at h
  split at h
  · injection h with h; subst h
    cases hr with
    | iv _ _ hr =>
    generalize hcv : w0.eval x = cv at hr
    cases hr
    exact ⟨.int .i64 0, by simp [execOp, resolve, invoke, builtin, Builtin.len_, hcv, run_underlying' ht, goInt], .iv _ _ (.int _ _)⟩
  · rename_i k m
    split at h
    · rename_i n' kd es hk
      split at h
      · rename_i hn; subst hn
        injection h with h; subst h
        obtain ⟨b, ms, clock, hA, hh, he, _⟩ := (hs.slots.rel k m _ hk).2
        generalize hcv : w0.eval x = cv at hr
        cases hr
        rw [hA] at hcv
        exact ⟨.int .i64 es.length, by simp [execOp, resolve, invoke, builtin, Builtin.len_, hcv, run_underlying' ht, Go.MapKept.run_getObj_map hh, goInt, he.1], .iv _ _ (.int _ _)⟩
      · cases h
    · cases h
  · cases h

end
end Go.Proofs.YtdlgenppdgkacaaGreatDoor.Ag
