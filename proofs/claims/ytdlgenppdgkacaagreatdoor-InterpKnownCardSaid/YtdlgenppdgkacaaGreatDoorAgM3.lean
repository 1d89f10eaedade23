/- Maps; functions made; elements of arrays. -/
import Derived.Test.YtdlgenppdgkacaaGreatDoorAgM2
set_option linter.unusedVariables false
set_option linter.unusedSimpArgs false
namespace Go.Proofs.YtdlgenppdgkacaaGreatDoor.Ag
open Go.RowKit (Below)
open Go.MapKept (IsKey)

/-! ### a map's entries without memory -/
def keyEq : IV → IV → Bool
  | .int k a, .int k' b => decide (k = k') && decide (a = b)
  | .str a, .str b => decide (a = b)
  | .bool a, .bool b => decide (a = b)
  | _, _ => false
def mfindI (key : IV) : List (IV × TV) → Nat → Option (Nat × TV)
  | [], _ => none
  | (k, v) :: l, i => if keyEq key k then some (i, v) else mfindI key l (i + 1)
def mput (key : IV) (v : TV) (es : List (IV × TV)) : List (IV × TV) :=
  match mfindI key es 0 with
  | some (j, _) => es.set j (key, v)
  | none => es ++ [(key, v)]
def descKind : TypeDesc → Option KKind
  | .int k => some (.int k)
  | .string => some .str
  | .bool => some .bool
  | _ => none
theorem isKey_of {I : Nat → Prop} {w : World} {x : IV} {v : Value} {kd : KKind} {d : TypeDesc} (hd : descKind d = some kd) (hk : keyKind x = some kd) (h : Rel I w x v) : IsKey d v := by
  cases h <;> simp [keyKind] at hk <;> subst hk <;> cases d <;> simp [descKind] at hd <;> simp [IsKey, hd]
theorem keyEq_same {I : Nat → Prop} {w : World} {x y : IV} {v u : Value} {kd : KKind} {d : TypeDesc} (hd : descKind d = some kd) (hx : keyKind x = some kd) (hy : keyKind y = some kd) (h : Rel I w x v) (k : Rel I w y u) :
    Instr.sameNow d v u = some (keyEq x y) ∧ (keyEq x y = true → v = u) := by
  cases h <;> simp [keyKind] at hx <;> subst hx <;> cases k <;> simp [keyKind] at hy <;> cases d <;> simp [descKind] at hd
  · rename_i a b
    refine ⟨?_, ?_⟩
    · cases a <;> cases b <;> rfl
    · simp [keyEq]
  · rename_i k1 a k2 b k3
    subst hy
    refine ⟨?_, ?_⟩
    · have : (a == b) = decide (a = b) := rfl
      simp [Instr.sameNow, keyEq]
      by_cases hab : a = b <;> simp [hab]
    · simp [keyEq]
  · rename_i a b
    refine ⟨?_, ?_⟩
    · simp only [Instr.sameNow, keyEq]
      congr 1
      by_cases hab : a = b
      · rw [(Go.MapKept.bytes_beq a b).2 hab]; simp [hab]
      · have : (a == b) = false := by
          cases h : (a == b) with
          | false => rfl
          | true => exact absurd ((Go.MapKept.bytes_beq a b).1 h) hab
        simp [this, hab]
    · simp [keyEq]

theorem find_rel {K : Kr} {w : World} {kd : KKind} {d : TypeDesc} (hd : descKind d = some kd) {key : IV} {kv : Value} (hk : keyKind key = some kd) (hr : Rel K.I w key kv) :
    ∀ (es : List (IV × TV)) (ms : List MapEntry) (i : Nat), ms.length = es.length → (∀ (q : Nat) (x : IV × TV) (m : MapEntry), es[q]? = some x → ms[q]? = some m → Rel K.I w x.1 m.key ∧ TRel K w x.2 m.val) → (∀ x ∈ es, keyKind x.1 = some kd) →
      (mfindI key es i = none ∧ Instr.findNow d kv ms i = some none) ∨
      ∃ j v m, mfindI key es i = some (i + j, v) ∧ j < es.length ∧ ms[j]? = some m ∧ TRel K w v m.val ∧ m.key = kv ∧ Instr.findNow d kv ms i = some (some (i + j, m.val))
  | [], [], i, _, _, _ => .inl ⟨rfl, rfl⟩
  | (k, v) :: es, m :: ms, i, hl, h, hkk => by
    obtain ⟨h1, h2⟩ := h 0 (k, v) m rfl rfl
    obtain ⟨h3, h4⟩ := keyEq_same hd hk (hkk (k, v) (by simp)) hr h1
    cases he : keyEq key k with
    | true =>
      rw [he] at h3
      exact .inr ⟨0, v, m, by simp [mfindI, he], by simp, rfl, h2, (h4 he).symm, by simp [Instr.findNow, h3]⟩
    | false =>
      rw [he] at h3
      rcases find_rel hd hk hr es ms (i + 1) (by simpa using hl) (fun q x m hx hm => h (q + 1) x m (by simpa using hx) (by simpa using hm)) (fun x hx => hkk x (by simp [hx])) with ⟨a1, a2⟩ | ⟨j, v', m', a1, a2, a3, a4, a5, a6⟩
      · exact .inl ⟨by simp [mfindI, he, a1], by simp [Instr.findNow, h3, a2]⟩
      · exact .inr ⟨j + 1, v', m', by simp [mfindI, he, a1]; omega, by simp; omega, by simpa using a3, a4, a5, by simp [Instr.findNow, h3, a6]; omega⟩
  | [], _ :: _, i, hl, _, _ => by simp at hl
  | _ :: _, [], i, hl, _, _ => by simp at hl

section
variable {P : Program} {N : Nat} {s : St} {d : Option Tmp} {ty : TypeId} {ps : String} {af : Array Edge} {g : Option (Nat × Bool)}

/-- What a map's key type is good for. -/
def keyDesc (P : Program) (kt : TypeId) : Option KKind :=
  match P.underlying kt with
  | some d => descKind d
  | none => none
theorem keyDesc_is {P : Program} {kt : TypeId} {kd : KKind} (h : keyDesc P kt = some kd) : ∃ d, P.underlying kt = some d ∧ descKind d = some kd := by
  unfold keyDesc at h
  split at h
  · rename_i d hd; exact ⟨d, hd, h⟩
  · cases h

theorem ok_mkmap {t kt et : TypeId} {k : Nat} {kd : KKind} (ht : P.underlying t = some (.map kt et)) (hk : keyDesc P kt = some kd) :
    OpOk P N ⟨d, .makeMap t none, ty, ps, af, g⟩ s (.mp k (nxt s.σ k)) (upd s.σ k (nxt s.σ k, .map kd [])) := by
  refine .of fun K a w hs => ?_
  have hrun : (execOp a.eval ⟨d, .makeMap t none, ty, ps, af, g⟩).run P w = .ok (.value (.map (some w.heap.size))) (w.alloc (.map #[] 0)) := by
    simp [execOp, Instr.makeMap, newObj, Sem.run]
  have hadd := hs.slots.add (w' := w.alloc (.map #[] 0)) k (.map kd []) (.map (some w.heap.size)) none (Grew.alloc w _ none) (fun b hb => by cases hb)
    (fun b hb => by simp [own] at hb; subst hb; exact ⟨by simp, .inl (Nat.le_refl _)⟩)
    (fun K' le _ _ => ⟨w.heap.size, #[], 0, rfl, heap_last w _, ⟨rfl, fun q x m hx => by simp at hx⟩, fun x hx => by simp at hx⟩)
  rw [hs.slots.nxt k] at hadd
  have hrel := TRel.mp (K := K.add k (.map (some w.heap.size))) (w := w.alloc (.map #[] 0)) k (nxt s.σ k) (by simp [Kr.add, hs.slots.nxt k])
  have hA1 : (K.add k (.map (some w.heap.size))).A k (nxt s.σ k) = .map (some w.heap.size) := by simp [Kr.add, hs.slots.nxt k]
  rw [hA1] at hrel
  exact ⟨_, _, _, hrun, hrel, hadd.1, hadd.2⟩

/-- The entries of a map that is read. -/
def entsOf (σ : Slots) (kd : KKind) : TV → Option (List (IV × TV))
  | .iv .nilmap => some []
  | .mp k n => match lk σ k with
    | some (n', .map kd' es) => if n = n' ∧ kd = kd' then some es else none
    | _ => none
  | _ => none
def lookOf (σ : Slots) (kd : KKind) (z : IV) (ok : Bool) (x : TV) (key : IV) : Option TV :=
  match entsOf σ kd x with
  | some es => if keyKind key = some kd then (match mfindI key es 0 with
      | some (_, v) => some (if ok then .tup [v, .iv (.bool true)] else v)
      | none => some (if ok then .tup [.iv z, .iv (.bool false)] else .iv z)) else none
  | none => none
theorem tup2_rel {K : Kr} {w : World} {v : TV} {u : Value} (h : TRel K w v u) (b : Bool) : TRel K w (.tup [v, .iv (.bool b)]) (.tuple #[u, .bool b]) := by
  refine .tup _ _ rfl ?_
  intro q c x hc hx
  match q with
  | 0 => simp at hc hx; subst hc; subst hx; exact h
  | 1 => simp at hc hx; subst hc; subst hx; exact .iv _ _ (.bool b)
  | q + 2 => simp at hc
theorem ok_look {t kt et : TypeId} {kd : KKind} {i : TypeInfo} {zv : Value} {z : IV} {ok : Bool} {x y : Operand} {x' y' : AOpd} {v r : TV} {key : IV} (ht : P.underlying t = some (.map kt et)) (hk : keyDesc P kt = some kd)
    (hi : P.info? et = some i) (hz : i.zero = some zv) (hzr : ∀ I w, Rel I w z zv) (tx : trOpd x = some x') (tyy : trOpd y = some y') (hx : ev s.ρ x' = some v) (hy : ev s.ρ y' = some (.iv key)) (h : lookOf s.σ kd z ok v key = some r) :
    OpOk P N ⟨d, .lookup t x y ok, ty, ps, af, g⟩ s r s.σ := by
  refine .pure fun K w0 w hs => ?_
  obtain ⟨dd, hdd, hdk⟩ := keyDesc_is hk
  have h1 := ev_rel hs tx hx
  have h2 := ev_rel hs tyy hy
  cases h2 with
  | iv _ _ h2 =>
  unfold lookOf at h
  split at h
  · rename_i es hes
    split at h
    · rename_i hkk
      -- the entries in the model
      obtain ⟨ms, hms, hml, hmr, hmk⟩ : ∃ ms : Array MapEntry, ((w0.eval x = .map none ∧ ms = #[]) ∨ ∃ b clock, w0.eval x = .map (some b) ∧ w.heap[b]? = some (.map ms clock)) ∧ ms.toList.length = es.length ∧
          (∀ (q : Nat) (x : IV × TV) (m : MapEntry), es[q]? = some x → ms.toList[q]? = some m → Rel K.I w x.1 m.key ∧ TRel K w x.2 m.val) ∧ ∀ x ∈ es, keyKind x.1 = some kd := by
        unfold entsOf at hes
        split at hes
        · injection hes with hes; subst hes
          cases h1 with
          | iv _ _ h1 =>
          generalize hcv : w0.eval x = cv at h1
          cases h1
          exact ⟨#[], .inl ⟨rfl, rfl⟩, rfl, fun q x m hx => by simp at hx, fun x hx => by simp at hx⟩
        · rename_i k n
          split at hes
          · rename_i n' kd' es' hkk'
            split at hes
            · rename_i hc
              obtain ⟨rfl, rfl⟩ := hc
              injection hes with hes; subst hes
              obtain ⟨b, ms, clock, hA, hh, he, hkey⟩ := (hs.slots.rel k n _ hkk').2
              generalize hcv : w0.eval x = cv at h1
              cases h1
              exact ⟨ms, .inr ⟨b, clock, hA, hh⟩, by simpa using he.1, fun q x m hx hm => he.2 q x m hx (by simpa using hm), hkey⟩
            · cases hes
          · cases hes
        · cases hes
      have hkey := isKey_of hdk hkk h2
      have hnone : Instr.findNow dd (w0.eval y) ms.toList 0 = some none → (Instr.lookup t (w0.eval x) (w0.eval y) ok).run P w = .ok (if ok then .tuple #[zv, .bool false] else zv) w := by
        intro ha
        rcases hms with ⟨e1, rfl⟩ | ⟨b, clock, e1, hh⟩
        · simp only [Instr.lookup, e1, Sem.run_bind, run_underlying' ht, Result.andThen_ok, Sem.run_pure, Go.MapKept.run_checkKey hdd hkey, Go.MapKept.run_findKey hdd ha]
          cases ok <;> simp [zeroValue, typeInfo, hi, hz]
        · simp only [Instr.lookup, e1, Sem.run_bind, run_underlying' ht, Result.andThen_ok, Sem.run_pure, Go.MapKept.run_getObj_map hh, Go.MapKept.run_checkKey hdd hkey, Go.MapKept.run_findKey hdd ha]
          cases ok <;> simp [zeroValue, typeInfo, hi, hz]
      have hsome : ∀ j u, Instr.findNow dd (w0.eval y) ms.toList 0 = some (some (j, u)) → (Instr.lookup t (w0.eval x) (w0.eval y) ok).run P w = .ok (if ok then .tuple #[u, .bool true] else u) w := by
        intro j u ha
        rcases hms with ⟨e1, rfl⟩ | ⟨b, clock, e1, hh⟩
        · simp only [Instr.lookup, e1, Sem.run_bind, run_underlying' ht, Result.andThen_ok, Sem.run_pure, Go.MapKept.run_checkKey hdd hkey, Go.MapKept.run_findKey hdd ha]
        · simp only [Instr.lookup, e1, Sem.run_bind, run_underlying' ht, Result.andThen_ok, Sem.run_pure, Go.MapKept.run_getObj_map hh, Go.MapKept.run_checkKey hdd hkey, Go.MapKept.run_findKey hdd ha]
      rcases find_rel hdk hkk h2 es ms.toList 0 hml hmr hmk with ⟨a1, a2⟩ | ⟨j, v', m, a1, a2, a3, a4, a5, a6⟩
      · rw [a1] at h
        simp only [Option.some.injEq] at h
        subst h
        refine ⟨if ok then .tuple #[zv, .bool false] else zv, ?_, ?_⟩
        · simp only [execOp, Sem.run_bind, hnone a2, Result.andThen_ok, Sem.run_pure]
        · cases ok
          · exact .iv _ _ (hzr _ _)
          · exact tup2_rel (.iv _ _ (hzr _ _)) false
      · rw [a1] at h
        simp only [Option.some.injEq] at h
        subst h
        refine ⟨if ok then .tuple #[m.val, .bool true] else m.val, ?_, ?_⟩
        · simp only [execOp, Sem.run_bind, hsome _ _ a6, Result.andThen_ok, Sem.run_pure]
        · cases ok
          · exact a4
          · exact tup2_rel a4 true
    · cases h
  · cases h

/-- A map is written. -/
def mapsetOf (σ : Slots) (kd : KKind) (x : TV) (key : IV) (v : TV) : Option Slots :=
  match x with
  | .mp k n => match lk σ k with
    | some (n', .map kd' es) => if n = n' ∧ kd = kd' ∧ keyKind key = some kd then some (upd σ k (n, .map kd (mput key v es))) else none
    | _ => none
  | _ => none
theorem ok_mapset {t kt et : TypeId} {kd : KKind} {x y z : Operand} {x' y' z' : AOpd} {v u : TV} {key : IV} {σ' : Slots} (ht : P.underlying t = some (.map kt et)) (hk : keyDesc P kt = some kd)
    (tx : trOpd x = some x') (tyy : trOpd y = some y') (tz : trOpd z = some z') (hx : ev s.ρ x' = some v) (hy : ev s.ρ y' = some (.iv key)) (hz : ev s.ρ z' = some u) (h : mapsetOf s.σ kd v key u = some σ') :
    OpOk P N ⟨d, .mapUpdate t x y z, ty, ps, af, g⟩ s .dead σ' := by
  intro K a w hs
  obtain ⟨dd, hdd, hdk⟩ := keyDesc_is hk
  have h1 := ev_rel hs tx hx
  have h2 := ev_rel hs tyy hy
  have h3 := ev_rel hs tz hz
  cases h2 with
  | iv _ _ h2 =>
  unfold mapsetOf at h
  split at h
  · rename_i k n
    split at h
    · rename_i n' kd' es hkk'
      split at h
      · rename_i hc
        obtain ⟨rfl, rfl, hkk⟩ := hc
        injection h with h; subst h
        obtain ⟨b, ms, clock, hA, hh, he, hkey⟩ := (hs.slots.rel k n _ hkk').2
        have hik := isKey_of hdk hkk h2
        have hxm : a.eval x = .map (some b) := by
          generalize hcv : a.eval x = cv at h1
          cases h1; exact hA
        have key2 : ∀ (ms' : Array MapEntry) (clock' : Nat) (es' : List (IV × TV)), (execOp a.eval ⟨d, .mapUpdate t x y z, ty, ps, af, g⟩).run P w = .ok .skip { w with heap := w.heap.setIfInBounds b (.map ms' clock') } →
            (∀ K' w', K.Le w K' w' → EntriesRel K' w' es' ms') → (∀ x ∈ es', keyKind x.1 = some kd) →
            ∃ (n_1 : Next) (K' : Kr) (w' : World) (u : Value), (execOp a.eval ⟨d, .mapUpdate t x y z, ty, ps, af, g⟩).run P w = .ok n_1 w' ∧ (n_1 = .value u ∨ n_1 = .skip ∧ u = undef) ∧ TRel K' w' .dead u ∧ SlotsRel K' (upd s.σ k (n, .map kd es')) w' ∧ Evo K s.σ w K' (upd s.σ k (n, .map kd es')) w' := by
          intro ms' clock' es' hrun hent hkk2
          have hb : b < w.heap.size := (Array.getElem?_eq_some_iff.1 hh).1
          have gr : Grew w { w with heap := w.heap.setIfInBounds b (.map ms' clock') } (some b) := by
            refine ⟨rfl, rfl, rfl, by simp, fun b' hb' hne => ?_⟩
            have : b ≠ b' := fun e => hne (by rw [e])
            simp [Array.getElem?_setIfInBounds, this]
          obtain ⟨t1, t2⟩ := hs.slots.turn (w' := { w with heap := w.heap.setIfInBounds b (.map ms' clock') }) k n (.map kd es) (.map kd es') hkk' (some b) gr
            (fun b' hb' => by simp at hb'; subst hb'; rw [hA]; rfl) (fun b' hb' => by rw [hA] at hb' ⊢; exact hb') (fun le => ⟨b, ms', clock', hA, by simp [Array.getElem?_setIfInBounds, hb], hent K _ le, hkk2⟩)
          exact ⟨_, _, _, undef, hrun, .inr ⟨rfl, rfl⟩, .dead, t1, t2⟩
        rcases find_rel hdk hkk h2 es ms.toList 0 (by simpa using he.1) (fun q x m hx hm => he.2 q x m hx (by simpa using hm)) hkey with ⟨a1, a2⟩ | ⟨j, v', m, a1, a2, a3, a4, a5, a6⟩
        · have : mput key u es = es ++ [(key, u)] := by simp [mput, a1]
          rw [this]
          refine key2 (ms.push { key := a.eval y, val := a.eval z, born := clock }) (clock + 1) _ ?_ ?_ ?_
          · simp [execOp, Instr.mapUpdate, hxm, run_underlying' ht, Go.MapKept.run_getObj_map hh, Go.MapKept.run_checkKey hdd hik, Go.MapKept.run_findKey hdd a2, Go.MapKept.run_setObj_map _ hh]
          · intro K' w' le
            refine ⟨by simp [he.1], ?_⟩
            intro q x m hx hm
            by_cases hq : q < es.length
            · rw [List.getElem?_append_left hq] at hx
              rw [Array.getElem?_push_lt (by rw [he.1]; exact hq)] at hm
              have := he.2 q x m hx (by rw [← hm]; simp [he.1, hq])
              exact ⟨this.1.stays le.1, this.2.mono le⟩
            · have hqe : q = es.length := by
                have := (List.getElem?_eq_some_iff.1 hx).1
                simp at this; omega
              subst hqe
              simp at hx; subst hx
              rw [← he.1] at hm; simp at hm; subst hm
              exact ⟨h2.stays le.1, h3.mono le⟩
          · intro x hx
            rcases List.mem_append.1 hx with hx | hx
            · exact hkey x hx
            · simp at hx; subst hx; exact hkk
        · have hmp : mput key u es = es.set j (key, u) := by simp [mput, a1]
          rw [hmp]
          simp only [Nat.zero_add] at a6
          have hj : ms[j]? = some m := by simpa using a3
          refine key2 (ms.modify j fun e => { e with key := a.eval y, val := a.eval z }) clock _ ?_ ?_ ?_
          · simp [execOp, Instr.mapUpdate, hxm, run_underlying' ht, Go.MapKept.run_getObj_map hh, Go.MapKept.run_checkKey hdd hik, Go.MapKept.run_findKey hdd a6, Go.MapKept.run_setObj_map _ hh, hj, a5, Go.MapKept.run_keyThatStays hik]
          · intro K' w' le
            refine ⟨by simp [he.1], ?_⟩
            intro q x m' hx hm
            rw [Array.getElem?_modify] at hm
            by_cases hq : j = q
            · subst hq
              rw [if_pos rfl, hj] at hm
              simp at hm; subst hm
              rw [List.getElem?_set_self a2] at hx
              injection hx with hx; subst hx
              exact ⟨h2.stays le.1, h3.mono le⟩
            · rw [if_neg hq] at hm
              rw [List.getElem?_set_ne hq] at hx
              have := he.2 q x m' hx hm
              exact ⟨this.1.stays le.1, this.2.mono le⟩
          · intro x hx
            rcases List.mem_or_eq_of_mem_set hx with h8 | rfl
            · exact hkey x h8
            · exact hkk
      · cases h
    · cases h
  · cases h

/-! ### functions made -/
theorem ok_mkfn {f : Fn} {first captured : Array Operand} {as_ bs : List AOpd} {fs cs : List TV} (t1 : first.toList.mapM trOpd = some as_) (t2 : captured.toList.mapM trOpd = some bs) (h1 : evAll s.ρ as_ = some fs) (h2 : evAll s.ρ bs = some cs) :
    OpOk P N ⟨d, .makeFunc f first captured, ty, ps, af, g⟩ s (.fn f fs cs) s.σ := by
  refine .pure fun K w0 w hs => ?_
  obtain ⟨a1, a2⟩ := evAll_rel hs first.toList as_ fs t1 h1
  obtain ⟨b1, b2⟩ := evAll_rel hs captured.toList bs cs t2 h2
  refine ⟨.func f (first.map w0.eval) (captured.map w0.eval), by simp [execOp, Instr.makeFunc], ?_⟩
  refine .fn f fs cs _ _ (by simpa using a1.symm) (by simpa using b1.symm) ?_ ?_
  · intro q c v hc hv
    exact a2 q c v hc (by simpa using hv)
  · intro q c v hc hv
    exact b2 q c v hc (by simpa using hv)

/-! ### arrays -/
theorem ok_arrV {t e : TypeId} {len : Nat} {sz : Nat} {ag : Bool} {x y : Operand} {x' y' : AOpd} {v r : TV} {k : IntKind} {n : Int} (ht : P.underlying t = some (.array len e)) (hsz : sizeIs P e sz) (ha : aggIs P e ag)
    (tx : trOpd x = some x') (tyy : trOpd y = some y') (hx : ev s.ρ x' = some v) (hy : ev s.ρ y' = some (.iv (.int k n))) (h0 : 0 ≤ n) (hn : n < len) (h : fldV (n.toNat * sz) sz ag v = some r) :
    OpOk P N ⟨d, .index t x y, ty, ps, af, g⟩ s r s.σ := by
  refine .pure fun K w0 w hs => ?_
  have h1 := ev_rel hs tx hx
  have h2 := ev_rel hs tyy hy
  cases h2 with
  | iv _ _ h2 =>
  generalize hcy : w0.eval y = cy at h2
  cases h2
  have run : ∀ vs v, w0.eval x = .agg vs → (if ag then v = .agg (vs.extract (n.toNat * sz) (n.toNat * sz + sz)) else vs[n.toNat * sz]? = some v) → (execOp w0.eval ⟨d, .index t x y, ty, ps, af, g⟩).run P w = .ok (.value v) w := by
    intro vs v e hv
    simp [execOp, e, hcy, Instr.index, asIntOf, run_underlying' ht, h0, hn, run_sizeOf hsz, run_part hsz ha vs (n.toNat * sz) w v hv]
  unfold fldV at h
  split at h
  · rename_i cs
    simp only [Option.map_eq_some_iff] at h
    obtain ⟨z, hz, rfl⟩ := h
    cases h1 with
    | iv _ _ h1 =>
    generalize hcv : w0.eval x = cv at h1
    cases h1 with
    | agg _ vs hn' ho hr =>
      unfold partIV at hz
      split at hz
      · rename_i hl
        cases ag
        · simp at hz
          obtain ⟨h1, hz⟩ := hz
          subst h1
          have hlt : n.toNat * 1 < vs.size := by omega
          exact ⟨vs[n.toNat * 1], run vs _ hcv (by simp only [Bool.false_eq_true, if_false]; exact Array.getElem?_eq_getElem hlt), .iv _ _ (hr _ z _ hz (Array.getElem?_eq_getElem hlt))⟩
        · simp at hz; subst hz
          refine ⟨_, run vs _ hcv (by simp; rfl), .iv _ _ (.agg _ _ (by simp; omega) ?_ ?_)⟩
          · intro c hc; exact ho c (List.mem_of_mem_drop (List.mem_of_mem_take hc))
          · intro q c v hc hv
            obtain ⟨hc, hq⟩ := take_drop_at hc
            have : vs[n.toNat * sz + q]? = some v := by
              rw [Array.getElem?_extract] at hv
              split at hv
              · exact hv
              · cases hv
            exact hr _ c v hc this
      · cases hz
  · rename_i cs
    generalize hcv : w0.eval x = cv at h1
    cases h1 with
    | agg _ vs hn' ho hr =>
      unfold partTV at h
      split at h
      · rename_i hl
        cases ag
        · simp at h
          obtain ⟨h1, h⟩ := h
          subst h1
          have hlt : n.toNat * 1 < vs.size := by omega
          exact ⟨vs[n.toNat * 1], run vs _ hcv (by simp only [Bool.false_eq_true, if_false]; exact Array.getElem?_eq_getElem hlt), hr _ r _ h (Array.getElem?_eq_getElem hlt)⟩
        · simp at h; subst h
          refine ⟨_, run vs _ hcv (by simp; rfl), mkAgg_rel (by simp; omega) ?_⟩
          intro q c v hc hv
          obtain ⟨hc, hq⟩ := take_drop_at hc
          have : vs[n.toNat * sz + q]? = some v := by
            rw [Array.getElem?_extract] at hv
            split at hv
            · exact hv
            · cases hv
          exact ⟨hr _ c v hc this, ho v (Array.mem_of_getElem? this)⟩
      · cases h
  · cases h

/-- The address of an array's element. -/
def arrA (off : Nat) : TV → Option TV
  | .loc k n o => some (.loc k n (o + off))
  | .el k n z i o => some (.el k n z i (o + off))
  | _ => none
theorem ok_arrA {t e : TypeId} {len : Nat} {sz : Nat} {x y : Operand} {x' y' : AOpd} {v r : TV} {k : IntKind} {n : Int} (ht : P.underlying t = some (.array len e)) (hsz : sizeIs P e sz)
    (tx : trOpd x = some x') (tyy : trOpd y = some y') (hx : ev s.ρ x' = some v) (hy : ev s.ρ y' = some (.iv (.int k n))) (h0 : 0 ≤ n) (hn : n < len) (h : arrA (n.toNat * sz) v = some r) :
    OpOk P N ⟨d, .indexAddr t x y, ty, ps, af, g⟩ s r s.σ := by
  refine .pure fun K w0 w hs => ?_
  have h1 := ev_rel hs tx hx
  have h2 := ev_rel hs tyy hy
  cases h2 with
  | iv _ _ h2 =>
  generalize hcy : w0.eval y = cy at h2
  cases h2
  have run : ∀ b off, w0.eval x = .pointer (some ⟨b, off, none⟩) → (execOp w0.eval ⟨d, .indexAddr t x y, ty, ps, af, g⟩).run P w = .ok (.value (.pointer (some ⟨b, off + n.toNat * sz, none⟩))) w := by
    intro b off e
    simp [execOp, e, hcy, Instr.indexAt, asIntOf, run_underlying' ht, Instr.sureAddr, h0, hn, run_sizeOf hsz, Addr.add_mid]
  unfold arrA at h
  split at h
  · rename_i k' m o
    injection h with h; subst h
    generalize hcv : w0.eval x = cv at h1
    cases h1 with
    | loc _ _ _ b hn hA => exact ⟨_, run b o hcv, .loc k' m (o + n.toNat * sz) b hn hA⟩
  · rename_i k' m z i o
    injection h with h; subst h
    generalize hcv : w0.eval x = cv at h1
    cases h1 with
    | el _ _ _ _ _ b len cap hn hA => exact ⟨_, run b _ hcv, by rw [Nat.add_assoc]; exact .el k' m z i (o + n.toNat * sz) b len cap hn hA⟩
  · cases h

end
end Go.Proofs.YtdlgenppdgkacaaGreatDoor.Ag
