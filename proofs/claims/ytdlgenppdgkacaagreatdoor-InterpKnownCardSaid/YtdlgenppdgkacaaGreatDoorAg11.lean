/- Slices cut, appended to, made; bytes to a string. -/
import Derived.Test.YtdlgenppdgkacaaGreatDoorAg10
import Derived.Laws.Slices
import Derived.Laws.BytesArg
import Derived.Maps.AppendAt
set_option linter.unusedVariables false
set_option linter.unusedSimpArgs false
namespace Go.Proofs.YtdlgenppdgkacaaGreatDoor.Ag
open Go.RowKit (Below)

section
variable {P : Program} {N : Nat} {s : St} {d : Option Tmp} {ty : TypeId} {ps : String} {af : Array Edge} {g : Option (Nat × Bool)}

/-- An operand that may lack. -/
def trOpt (x : Option Operand) (y : Option AOpd) : Prop :=
  match x, y with
  | none, none => True
  | some x, some y => trOpd x = some y
  | _, _ => False
/-- An integer that may lack. -/
def evOpt (ρ : List (Nat × TV)) : Option AOpd → Option (Option Int)
  | none => some none
  | some y => match ev ρ y with
    | some (.iv (.int _ n)) => some (some n)
    | _ => none

theorem evOpt_rel {K : Kr} {a : Act} {w : World} (hs : SRel N K s a w) {x : Option Operand} {y : Option AOpd} (ht : trOpt x y) {n : Option Int} (h : evOpt s.ρ y = some n) :
    (x = none ∧ n = none) ∨ ∃ o k m, x = some o ∧ n = some m ∧ a.eval o = .int k m := by
  cases x with
  | none =>
    cases y with
    | none => simp [evOpt] at h; exact .inl ⟨rfl, h.symm⟩
    | some y => exact ht.elim
  | some o =>
    cases y with
    | none => exact ht.elim
    | some y =>
      simp only [evOpt] at h
      split at h
      · rename_i k m hv
        injection h with h
        have hr := ev_rel hs ht hv
        cases hr with
        | iv _ _ hr =>
        generalize hcv : a.eval o = cv at hr
        cases hr
        exact .inr ⟨o, k, m, rfl, h.symm, hcv⟩
      · cases h

/-- The bounds of a cut: from, to, and the end of the capacity (none: as it is). -/
def cutAt (len : Nat) (lo hi mx : Option Int) : Option (Nat × Nat) :=
  let l := lo.getD 0
  let h := hi.getD len
  if 0 ≤ l ∧ l ≤ h ∧ h ≤ (mx.getD len) ∧ (mx.getD len) ≤ len then some (l.toNat, h.toNat) else none

theorem run_sb {P : Program} (k : IntKind) (i : Int) (y : Nat) (code : BoundsCode) (h : 0 ≤ i ∧ i ≤ (y : Int)) (w : World) : (Instr.sliceBound (.int k i) y code).run P w = .ok i.toNat w := by
  simp [Instr.sliceBound, asIntOf, h.1, h.2]

theorem run_bounds {P : Program} (isSlice : Bool) (len cap : Nat) (hc : len ≤ cap) {lo hi mx : Option Value} {l h m : Option Int} (hl : (lo = none ∧ l = none) ∨ ∃ k n, lo = some (.int k n) ∧ l = some n)
    (hh : (hi = none ∧ h = none) ∨ ∃ k n, hi = some (.int k n) ∧ h = some n) (hm : (mx = none ∧ m = none) ∨ (hi ≠ none ∧ ∃ k n, mx = some (.int k n) ∧ m = some n)) {p q : Nat} (hcut : cutAt len l h m = some (p, q)) (w : World) :
    ∃ mm, (Instr.sliceBounds isSlice len cap lo hi mx).run P w = .ok (p, q, mm) w ∧ p ≤ q ∧ q ≤ len ∧ q ≤ mm := by
  unfold cutAt at hcut
  simp only at hcut
  split at hcut
  · rename_i hb
    simp only [Option.some.injEq, Prod.mk.injEq] at hcut
    obtain ⟨rfl, rfl⟩ := hcut
    obtain ⟨b1, b2, b3, b4⟩ := hb
    rcases hm with ⟨rfl, rfl⟩ | ⟨hne, km, nm, rfl, rfl⟩
    · rcases hl with ⟨rfl, rfl⟩ | ⟨kl, nl, rfl, rfl⟩ <;> rcases hh with ⟨rfl, rfl⟩ | ⟨kh, nh, rfl, rfl⟩
      · simp at b1 b2 b3 b4
        exact ⟨cap, by simp [Instr.sliceBounds], by simp, by simp, by simpa using hc⟩
      · simp at b1 b2 b3 b4
        exact ⟨cap, by simp only [Instr.sliceBounds, Sem.run_bind, Sem.run_pure, Result.andThen_ok, run_sb kh nh cap _ ⟨b2, by omega⟩]; simp, by simp, by simp; omega, by simp; omega⟩
      · simp at b1 b2 b3 b4
        exact ⟨cap, by simp only [Instr.sliceBounds, Sem.run_bind, Sem.run_pure, Result.andThen_ok, run_sb kl nl len _ ⟨b1, b2⟩]; simp, by simp; omega, by simp, by simpa using hc⟩
      · simp at b1 b2 b3 b4
        exact ⟨cap, by simp only [Instr.sliceBounds, Sem.run_bind, Sem.run_pure, Result.andThen_ok, run_sb kh nh cap _ ⟨by omega, by omega⟩, run_sb kl nl nh.toNat _ ⟨b1, by omega⟩]; simp, by simp; omega, by simp; omega, by simp; omega⟩
    · rcases hh with ⟨rfl, rfl⟩ | ⟨kh, nh, rfl, rfl⟩
      · exact absurd rfl hne
      · rcases hl with ⟨rfl, rfl⟩ | ⟨kl, nl, rfl, rfl⟩
        · simp at b1 b2 b3 b4
          exact ⟨nm.toNat, by simp only [Instr.sliceBounds, Sem.run_bind, Sem.run_pure, Result.andThen_ok, run_sb km nm cap _ ⟨by omega, by omega⟩, run_sb kh nh nm.toNat _ ⟨by omega, by omega⟩]; simp, by simp, by simp; omega, by simp; omega⟩
        · simp at b1 b2 b3 b4
          exact ⟨nm.toNat, by simp only [Instr.sliceBounds, Sem.run_bind, Sem.run_pure, Result.andThen_ok, run_sb km nm cap _ ⟨by omega, by omega⟩, run_sb kh nh nm.toNat _ ⟨by omega, by omega⟩, run_sb kl nl nh.toNat _ ⟨b1, by omega⟩]; simp, by simp; omega, by simp; omega, by simp; omega⟩
  · cases hcut

def cut (xs : List IV) (p q : Nat) : List IV := (xs.drop p).take (q - p)

theorem flat_drop {sz : Nat} : ∀ {xs : List IV} {p : Nat}, (∀ x ∈ xs, x.cells.length = sz) → p ≤ xs.length → flat (xs.drop p) = (flat xs).drop (p * sz)
  | xs, 0, _, _ => by simp
  | [], p + 1, _, h => by simp at h
  | x :: xs, p + 1, hs, h => by
    have ih := flat_drop (xs := xs) (p := p) (fun y hy => hs y (by simp [hy])) (by simpa using h)
    have h1 := hs x (by simp)
    simp only [List.drop_succ_cons, ih]
    simp only [flat, List.flatMap_cons]
    rw [List.drop_append, Nat.add_mul, Nat.one_mul, h1, show p * sz + sz - sz = p * sz by omega, List.drop_eq_nil_of_le (as := x.cells) (by omega), List.nil_append]
theorem flat_take_get {sz : Nat} : ∀ {xs : List IV} {n : Nat} {q : Nat} {c : IV}, (∀ x ∈ xs, x.cells.length = sz) → (flat (xs.take n))[q]? = some c → (flat xs)[q]? = some c
  | xs, 0, q, c, _, h => by simp [flat] at h
  | [], n + 1, q, c, _, h => by simp [flat] at h
  | x :: xs, n + 1, q, c, hs, h => by
    simp only [List.take_succ_cons, flat, List.flatMap_cons] at h ⊢
    by_cases hq : q < x.cells.length
    · rw [List.getElem?_append_left hq] at h ⊢; exact h
    · rw [List.getElem?_append_right (by omega)] at h ⊢
      exact flat_take_get (xs := xs) (n := n) (fun y hy => hs y (by simp [hy])) h

/-- A part of a slice that nobody writes. -/
theorem Rel.cut {I : Nat → Prop} {w : World} {xs : List IV} {a : Option Addr} {len cap : Nat} (h : Rel I w (.slice xs) (.slice a len cap)) {p q mm sz : Nat} (hpq : p ≤ q) (hq : q ≤ xs.length) (hm : q ≤ mm) (hsz : ∀ x ∈ xs, x.cells.length = sz) :
    Rel I w (.slice (cut xs p q)) (.slice (if mm = p then a else a.map (·.add (p * sz))) (q - p) (mm - p)) := by
  have hlen : (Ag.cut xs p q).length = q - p := by simp [Ag.cut]; omega
  by_cases h0 : q = p
  · subst h0
    have : Ag.cut xs q q = [] := by simp [Ag.cut]
    rw [this, Nat.sub_self]
    exact .empty _ _
  · cases h with
    | empty a cap => simp at hq; omega
    | slice _ b off cap sz' cv hc hs hI hmm ho hr =>
      have hne : 0 < xs.length := by omega
      have hszz : sz' = sz := by
        have h1 := hs xs[0] (by simp)
        have h2 := hsz xs[0] (by simp)
        omega
      subst hszz
      rw [if_neg (by omega)]
      simp only [Option.map_some, Addr.add_mid]
      have key : ∀ j c, (flat (Ag.cut xs p q))[j]? = some c → (flat xs)[p * sz' + j]? = some c := by
        intro j c hj
        have := flat_take_get (fun x hx => hs x (List.mem_of_mem_drop hx)) hj
        rw [flat_drop hs (by omega), List.getElem?_drop] at this
        exact this
      rw [← hlen]
      refine .slice _ b (off + p * sz') _ sz' (fun j => cv (p * sz' + j)) (by omega) (fun x hx => hs x (List.mem_of_mem_drop (List.mem_of_mem_take hx))) hI ?_ (fun j c hj => ho _ c (key j c hj)) (fun j c hj => hr _ c (key j c hj))
      intro j c hj
      rw [Nat.add_assoc]
      exact hmm _ c (key j c hj)

theorem ok_slc {t e : TypeId} {i : TypeInfo} {x : Operand} {lo hi mx : Option Operand} {x' : AOpd} {lo' hi' mx' : Option AOpd} {v : TV} {xs : List IV} {σ' : Slots} {l h m : Option Int} {p q : Nat}
    (ht : P.underlying t = some (.slice e)) (hinf : P.info? e = some i) (tx : trOpd x = some x') (tl : trOpt lo lo') (th : trOpt hi hi') (tm : trOpt mx mx') (hmh : mx.isSome → hi.isSome)
    (hx : ev s.ρ x' = some v) (hv : shut v s.σ = some (.slice xs, σ')) (el : evOpt s.ρ lo' = some l) (eh : evOpt s.ρ hi' = some h) (em : evOpt s.ρ mx' = some m) (hcut : cutAt xs.length l h m = some (p, q)) (hsz : oneSize i.size xs = true) :
    OpOk P N ⟨d, .slice t x lo hi mx, ty, ps, af, g⟩ s (.iv (.slice (cut xs p q))) σ' := by
  refine .of fun K a w hs => ?_
  obtain ⟨K1, h1, h2, h3⟩ := shut_ok v hs.slots (ev_rel hs tx hx) hv
  obtain ⟨A, cap, hA, hcap⟩ : ∃ A cap, a.eval x = .slice A xs.length cap ∧ xs.length ≤ cap := by
    generalize hcv : a.eval x = cv at h3
    cases h3 with
    | empty A cap => exact ⟨A, cap, rfl, by simp⟩
    | slice _ b off cap sz cv hc hs hI hm ho hr => exact ⟨_, cap, rfl, hc⟩
  have gen : ∀ {o : Option Operand} {n : Option Int}, ((o = none ∧ n = none) ∨ ∃ o' k m, o = some o' ∧ n = some m ∧ a.eval o' = .int k m) → (o.map a.eval = none ∧ n = none) ∨ ∃ k n', o.map a.eval = some (.int k n') ∧ n = some n' := by
    rintro o n (⟨rfl, rfl⟩ | ⟨o', k, m', rfl, rfl, e⟩)
    · exact .inl ⟨rfl, rfl⟩
    · exact .inr ⟨k, m', by simp [e], rfl⟩
  have gm := gen (evOpt_rel hs tm em)
  obtain ⟨mm, hb, b1, b2, b3⟩ := run_bounds (P := P) true xs.length cap hcap (gen (evOpt_rel hs tl el)) (gen (evOpt_rel hs th eh)) (by
    rcases gm with gm | gm
    · exact .inl gm
    · refine .inr ⟨?_, gm⟩
      obtain ⟨k, n', e, _⟩ := gm
      cases mx with
      | none => simp at e
      | some o => cases hi with
        | none => simp at hmh
        | some o' => simp) hcut w
  rw [hA] at h3
  refine ⟨K1, w, _, ?_, .iv _ _ (h3.cut (mm := mm) b1 b2 b3 (fun y hy => (oneSize_mem hsz y hy).1)), h1, h2⟩
  simp [execOp, hA, Instr.sliceAt, Instr.slice, run_underlying' ht, hb, sizeOf, typeInfo, hinf]

theorem ok_slcS {t : TypeId} {x : Operand} {lo hi : Option Operand} {x' : AOpd} {lo' hi' : Option AOpd} {b : ByteArray} {l h : Option Int} {p q : Nat}
    (ht : P.underlying t = some .string) (tx : trOpd x = some x') (tl : trOpt lo lo') (th : trOpt hi hi') (hx : ev s.ρ x' = some (.iv (.str b))) (el : evOpt s.ρ lo' = some l) (eh : evOpt s.ρ hi' = some h)
    (hcut : cutAt b.size l h none = some (p, q)) : OpOk P N ⟨d, .slice t x lo hi none, ty, ps, af, g⟩ s (.iv (.str (b.extract p q))) s.σ := by
  refine .pure fun K a w hs => ?_
  have hr := ev_rel hs tx hx
  cases hr with
  | iv _ _ hr =>
  generalize hcv : a.eval x = cv at hr
  cases hr
  have gen : ∀ {o : Option Operand} {n : Option Int}, ((o = none ∧ n = none) ∨ ∃ o' k m, o = some o' ∧ n = some m ∧ a.eval o' = .int k m) → (o.map a.eval = none ∧ n = none) ∨ ∃ k n', o.map a.eval = some (.int k n') ∧ n = some n' := by
    rintro o n (⟨rfl, rfl⟩ | ⟨o', k, m', rfl, rfl, e⟩)
    · exact .inl ⟨rfl, rfl⟩
    · exact .inr ⟨k, m', by simp [e], rfl⟩
  obtain ⟨mm, hb, _⟩ := run_bounds (P := P) false b.size b.size (Nat.le_refl _) (gen (evOpt_rel hs tl el)) (gen (evOpt_rel hs th eh)) (.inl ⟨rfl, rfl⟩) hcut w
  refine ⟨.string (b.extract p q), ?_, .iv _ _ (.str _)⟩
  simp [execOp, hcv, Instr.sliceAt, Instr.slice, run_underlying' ht, hb]

/-! ### append -/
/-- A slot that is held where true is true holds it. -/
def unIf : TV → TV
  | .ifb true t => unIf t
  | t => t
theorem unIf_rel {K : Kr} {w : World} : ∀ {t : TV} {v : Value}, TRel K w t v → TRel K w (unIf t) v
  | .ifb true t, v, h => by
    cases h with
    | ifb _ _ _ h1 _ => exact unIf_rel (t := t) (h1 rfl)
  | .ifb false t, v, h => h
  | .iv _, v, h => h
  | .loc _ _ _, v, h => h
  | .lst _ _, v, h => h
  | .el _ _ _ _ _, v, h => h
  | .mp _ _, v, h => h
  | .itr _ _, v, h => h
  | .sl _ _ _ _ _ _, v, h => h
  | .dead, v, h => h
  | .agg _, v, h => h
  | .tup _, v, h => h
  | .fn _ _ _, v, h => h
/-- What is appended: its elements, a list of the call's own or none that is written. -/
def srcOf0 (σ : Slots) : TV → Option (List IV)
  | .iv (.slice ys) => some ys
  | .iv .nil => some []
  | .lst k n => match lk σ k with
    | some (n', .list _ _ ys) => if n = n' then some ys else none
    | some (n', .froz ys) => if n = n' then some ys else none
    | some (n', .tl _ z cs) => if n = n' ∧ z = 1 then ivsOf cs else none
    | _ => none
  | _ => none

def srcOf (σ : Slots) (t : TV) : Option (List IV) := srcOf0 σ (unIf t)
theorem ones_flat : ∀ {xs : List IV}, (∀ x ∈ xs, x.one = true) → flat xs = xs
  | [], _ => rfl
  | x :: xs, h => by
    have hx : x.cells = [x] := by
      have := h x (by simp)
      cases x <;> first | rfl | simp [IV.one] at this
    have ih := ones_flat (xs := xs) (fun y hy => h y (by simp [hy]))
    simp only [flat, List.flatMap_cons, hx] at ih ⊢
    rw [ih]; rfl
theorem one_cells_len {x : IV} (h : x.one = true) : x.cells = [x] := by cases x <;> first | rfl | simp [IV.one] at h
/-- A list of one-cell values that reads as values of nobody's. -/
theorem tl_ones {K : Kr} {w : World} {v : Value} {e : Nat} {cs : List TV} {ys : List IV} (h : IRel K w (.tl e 1 cs) v) (hy : ivsOf cs = some ys) :
    ∃ cvs, w.ownsRow 0 e 1 v ys.length cvs ∧ (∀ x ∈ ys, x.cells.length = 1 ∧ ∀ c ∈ x.cells, c.one = true) ∧ (∀ x ∈ ys, x.one = true) ∧ (∀ (q : Nat) (c : IV) (u : Value), (flat ys)[q]? = some c → cvs[q]? = some u → Rel K.I w c u) := by
  have hcs := ivsOf_rel (K := K) (w := w) hy
  subst hcs
  obtain ⟨m, cvs, _, hl, how, hr⟩ := h
  have hm : m = ys.length := by simpa using hl.symm
  subst hm
  have hone : ∀ x ∈ ys, x.one = true := by
    intro x hx
    obtain ⟨q, hq⟩ := List.getElem?_of_mem hx
    have hql : q < ys.length := (List.getElem?_eq_some_iff.1 hq).1
    have hcl : q < cvs.length := by rw [how.1]; omega
    have := hr q (.iv x) cvs[q] (by simp [hq]) (by simp [hcl])
    cases this.1 with
    | iv _ _ h9 => exact one_of_rel h9 this.2
  refine ⟨cvs, how, fun x hx => by rw [one_cells_len (hone x hx)]; exact ⟨rfl, fun c hc => by simp at hc; subst hc; exact hone _ hx⟩, hone, ?_⟩
  intro q c u hq hu
  rw [ones_flat hone] at hq
  have := (hr q (.iv c) u (by simp [hq]) hu).1
  cases this with
  | iv _ _ h9 => exact h9

theorem srcOf_rel {K : Kr} {σ : Slots} {w : World} (hs : SlotsRel K σ w) {t : TV} {v : Value} (r : TRel K w t v) {ys : List IV} (h : srcOf σ t = some ys) {sz : Nat} (hsz : oneSize sz ys = true) :
    ∃ a c, v = .slice a ys.length c ∧ (ys = [] ∨ ∃ (ad : Addr) (news : List Value), a = some ad ∧ news.length = ys.length * sz ∧ (∀ (j : Nat) (u : Value), news[j]? = some u → w.cell? (ad.add j) = some u) ∧ (∀ u ∈ news, u.oneCell' = true) ∧
      ∀ (q : Nat) (c : IV) (u : Value), (flat ys)[q]? = some c → news[q]? = some u → Rel K.I w c u) := by
  have fromRel : ∀ v, Rel K.I w (.slice ys) v → ∃ a c, v = .slice a ys.length c ∧ (ys = [] ∨ ∃ (ad : Addr) (news : List Value), a = some ad ∧ news.length = ys.length * sz ∧ (∀ (j : Nat) (u : Value), news[j]? = some u → w.cell? (ad.add j) = some u) ∧ (∀ u ∈ news, u.oneCell' = true) ∧
      ∀ (q : Nat) (c : IV) (u : Value), (flat ys)[q]? = some c → news[q]? = some u → Rel K.I w c u) := by
    intro v hv
    cases hv with
    | empty a cap => exact ⟨a, cap, rfl, .inl rfl⟩
    | slice _ b off cap sz' cv hc hss hI hm ho hr =>
      refine ⟨_, cap, rfl, ?_⟩
      by_cases h0 : ys = []
      · exact .inl h0
      · have hfl := flat_len (xs := ys) (sz := sz) (fun y hy => (oneSize_mem hsz y hy).1)
        refine .inr ⟨⟨b, off, none⟩, (List.range (flat ys).length).map cv, rfl, by simp [hfl], ?_, ?_, ?_⟩
        · intro j u hj
          simp only [List.getElem?_map, Option.map_eq_some_iff] at hj
          obtain ⟨j', hj', rfl⟩ := hj
          obtain ⟨h1, h2⟩ := List.getElem?_eq_some_iff.1 hj'
          simp at h1 h2
          subst h2
          rw [Addr.add_mid]
          exact hm j _ (List.getElem?_eq_getElem h1)
        · intro u hu
          simp only [List.mem_map, List.mem_range] at hu
          obtain ⟨j, hj, rfl⟩ := hu
          have := List.getElem?_eq_getElem hj
          exact ((hr j _ this).oneCell (ho j _ this)).2
        · intro q c u hq hu
          have hlt : q < (flat ys).length := (List.getElem?_eq_some_iff.1 hq).1
          simp [hlt] at hu
          subst hu
          exact hr q c hq
  replace r := unIf_rel r
  unfold srcOf at h
  generalize unIf t = t at r h
  unfold srcOf0 at h
  split at h
  · injection h with h; subst h
    cases r with
    | iv _ _ r => exact fromRel v r
  · injection h with h; subst h
    cases r with
    | iv _ _ r => exact fromRel v r.weakNil
  · rename_i k n
    split at h
    · rename_i n' e sz' xs hk
      split at h
      · rename_i hn; subst hn
        injection h with h; subst h
        cases r
        obtain ⟨_, cvs, how, hss, hr⟩ := hs.rel k n _ hk
        rcases how.2 with ⟨h1, h2⟩ | ⟨gb, cap, cur, h1, _, hh, hle, _, hcs, htake⟩
        · have : xs = [] := List.eq_nil_of_length_eq_zero h2
          subst this
          exact ⟨none, 0, by rw [h1]; rfl, .inl rfl⟩
        · refine ⟨_, cap, h1, ?_⟩
          by_cases h0 : xs = []
          · exact .inl h0
          · have hne : 0 < xs.length := List.length_pos_iff.2 h0
            have hszz : sz' = sz := by
              have h1 := (hss xs[0] (by simp)).1
              have h2 := (oneSize_mem hsz xs[0] (by simp)).1
              omega
            subst hszz
            have hcell : ∀ j u, cvs[j]? = some u → w.cell? ((⟨gb, 0, none⟩ : Addr).add j) = some u := by
              intro j u hj
              have hjl : j < xs.length * sz' := by have := (List.getElem?_eq_some_iff.1 hj).1; rw [how.1] at this; exact this
              rw [Addr.add_mid, Nat.zero_add]
              rw [← htake, List.getElem?_take_of_lt hjl] at hj
              simp only [Array.getElem?_toList] at hj
              simp [World.cell?, hh, hj]
            have hfl := flat_len (xs := xs) (sz := sz') (fun x hx => (hss x hx).1)
            refine .inr ⟨⟨gb, 0, none⟩, cvs, rfl, how.1, hcell, ?_, hr⟩
            intro u hu
            obtain ⟨j, hj⟩ := List.getElem?_of_mem hu
            have hjl : j < (flat xs).length := by have := (List.getElem?_eq_some_iff.1 hj).1; rw [how.1] at this; omega
            have hc := List.getElem?_eq_getElem hjl
            obtain ⟨x, hx, hcx⟩ := List.mem_flatMap.1 (List.mem_of_getElem? hc)
            exact ((hr j _ u hc hj).oneCell ((hss x hx).2 _ hcx)).2
      · cases h
    · rename_i n' xs hk
      split at h
      · rename_i hn; subst hn
        injection h with h; subst h
        cases r
        exact fromRel _ (hs.rel k n _ hk).2
      · cases h
    · rename_i n' e' z' cs hk
      split at h
      · rename_i hc
        obtain ⟨rfl, rfl⟩ := hc
        cases r
        obtain ⟨cvs, how, hss, hone, hr⟩ := tl_ones (hs.rel k n _ hk).2 h
        rcases how.2 with ⟨h1, h2⟩ | ⟨gb, cap, cur, h1, _, hh, hle, _, hcs, htake⟩
        · have : ys = [] := List.eq_nil_of_length_eq_zero h2
          subst this
          exact ⟨none, 0, by rw [h1]; rfl, .inl rfl⟩
        · refine ⟨_, cap, h1, ?_⟩
          by_cases h0 : ys = []
          · exact .inl h0
          · have hne : 0 < ys.length := List.length_pos_iff.2 h0
            have hszz : 1 = sz := by
              have h1 := (hss ys[0] (by simp)).1
              have h2 := (oneSize_mem hsz ys[0] (by simp)).1
              omega
            subst hszz
            refine .inr ⟨⟨gb, 0, none⟩, cvs, rfl, how.1, ?_, ?_, hr⟩
            · intro j u hj
              have hjl : j < ys.length * 1 := by have := (List.getElem?_eq_some_iff.1 hj).1; rw [how.1] at this; exact this
              rw [Addr.add_mid, Nat.zero_add]
              rw [← htake, List.getElem?_take_of_lt hjl] at hj
              simp only [Array.getElem?_toList] at hj
              simp [World.cell?, hh, hj]
            · intro u hu
              obtain ⟨j, hj⟩ := List.getElem?_of_mem hu
              have hjl : j < (flat ys).length := by have := (List.getElem?_eq_some_iff.1 hj).1; rw [how.1] at this; rw [ones_flat hone]; omega
              have hc := List.getElem?_eq_getElem hjl
              obtain ⟨x, hx, hcx⟩ := List.mem_flatMap.1 (List.mem_of_getElem? hc)
              exact ((hr j _ u hc hj).oneCell ((hss x hx).2 _ hcx)).2
      · cases h
    · cases h
  · cases h

/-- The list that is appended to: the place that it is (a new one for nil), what it holds. -/
def dstOf0 (σ : Slots) (k0 e sz : Nat) : TV → Option (Nat × List IV)
  | .iv .nil => some (k0, [])
  | .lst k n => match lk σ k with
    | some (n', .list e' sz' xs) => if n = n' ∧ e = e' ∧ sz = sz' then some (k, xs) else none
    | some (n', .tl e' sz' cs) => if n = n' ∧ e = e' ∧ sz = sz' ∧ sz = 1 then match ivsOf cs with
        | some xs => some (k, xs)
        | none => none
      else none
    | _ => none
  | _ => none

def dstOf (σ : Slots) (k0 e sz : Nat) (t : TV) : Option (Nat × List IV) := dstOf0 σ k0 e sz (unIf t)

theorem flat_append (xs ys : List IV) : flat (xs ++ ys) = flat xs ++ flat ys := by simp [flat]

theorem ok_app {t e : TypeId} {i : TypeInfo} {z : Value} {k0 k : Nat} {x y : Operand} {x' y' : AOpd} {v u : TV} {xs ys : List IV} (ht : P.underlying t = some (.slice e)) (hi : P.info? e = some i) (hz : i.zero = some z)
    (hzs : z.cells.size = i.size) (h0 : 0 < i.size) (hb0 : 0 < i.bytes) (tx : trOpd x = some x') (tyy : trOpd y = some y') (hx : ev s.ρ x' = some v) (hy : ev s.ρ y' = some u)
    (hd : dstOf s.σ k0 e i.size v = some (k, xs)) (hsrc : srcOf s.σ u = some ys) (hsz : oneSize i.size ys = true) (hlen : (xs.length + ys.length) * i.bytes ≤ 140737488355328) :
    OpOk P N ⟨d, .call { callee := .builtin .append, args := #[x, y], argTypes := #[t, t] }, ty, ps, af, g⟩ s (.lst k (nxt s.σ k)) (upd s.σ k (nxt s.σ k, .list e i.size (xs ++ ys))) := by
  refine .of fun K a w hs => ?_
  have hv := unIf_rel (ev_rel hs tx hx)
  obtain ⟨A, c, hu, hnews⟩ := srcOf_rel hs.slots (ev_rel hs tyy hy) hsrc hsz
  -- what is appended to
  obtain ⟨vv, cvs, hvv, how, hss, hr, hplace⟩ : ∃ vv cvs, a.eval x = vv ∧ w.ownsRow 0 e i.size vv xs.length cvs ∧ (∀ x ∈ xs, x.cells.length = i.size ∧ ∀ c ∈ x.cells, c.one = true) ∧
      (∀ (q : Nat) (c : IV) (u : Value), (flat xs)[q]? = some c → cvs[q]? = some u → Rel K.I w c u) ∧ (∀ b, vv.ownBlock = some b → ∃ n it', lk s.σ k = some (n, it') ∧ own it' (K.A k n) = some b) := by
    unfold dstOf at hd
    generalize unIf v = v at hv hd
    unfold dstOf0 at hd
    split at hd
    · simp only [Option.some.injEq, Prod.mk.injEq] at hd
      obtain ⟨rfl, rfl⟩ := hd
      cases hv with
      | iv _ _ hv =>
      generalize hcv : a.eval x = cv at hv
      cases hv
      exact ⟨_, [], rfl, ⟨by simp, .inl ⟨rfl, rfl⟩⟩, fun x hx => by simp at hx, fun q c u hq => by simp [flat] at hq, fun b hb => by simp [Value.ownBlock] at hb⟩
    · rename_i k' n
      split at hd
      · rename_i n' e' sz' xs' hk
        split at hd
        · rename_i hn
          obtain ⟨rfl, rfl, rfl⟩ := hn
          simp only [Option.some.injEq, Prod.mk.injEq] at hd
          obtain ⟨rfl, rfl⟩ := hd
          obtain ⟨_, cvs, how, hss, hr⟩ := hs.slots.rel k' n _ hk
          generalize hcv : a.eval x = cv at hv
          cases hv
          exact ⟨_, cvs, rfl, how, hss, hr, fun b hb => ⟨n, _, hk, hb⟩⟩
        · cases hd
      · rename_i n' e' sz' cs hk
        split at hd
        · rename_i hn
          obtain ⟨rfl, rfl, rfl, h1⟩ := hn
          split at hd
          · rename_i xs' hxs
            simp only [Option.some.injEq, Prod.mk.injEq] at hd
            obtain ⟨rfl, rfl⟩ := hd
            rw [h1] at hk ⊢
            obtain ⟨cvs, how, hss, _, hr⟩ := tl_ones (hs.slots.rel k' n _ hk).2 hxs
            generalize hcv : a.eval x = cv at hv
            cases hv
            exact ⟨_, cvs, rfl, how, hss, hr, fun b hb => ⟨n, _, hk, hb⟩⟩
          · cases hd
        · cases hd
      · cases hd
    · cases hd
  have hl1 : xs.length + ys.length ≤ 140737488355328 := Nat.le_trans (Nat.le_mul_of_pos_right _ hb0) hlen
  have hmax : xs.length + ys.length ≤ maxLen := by unfold maxLen; omega
  -- the run
  obtain ⟨v1, w1, news, hrun, hown, hgrown, hat, hnl, hnr⟩ : ∃ (v1 : Value) (w1 : World) (news : List Value), (Builtin.append_ #[t, t] ty #[vv, .slice A ys.length c]).run P w = .ok v1 w1 ∧ w1.ownsRow 0 e i.size v1 (xs.length + ys.length) (cvs ++ news) ∧ w.grownBy w1 vv.ownBlock ∧
      (v1.ownBlock = vv.ownBlock ∨ v1.ownBlock = some w.heap.size) ∧ news.length = ys.length * i.size ∧ ∀ (q : Nat) (c : IV) (u : Value), (flat ys)[q]? = some c → news[q]? = some u → Rel K.I w c u := by
    rcases hnews with h0' | ⟨ad, news, rfl, n1, n2, n3, n4⟩
    · subst h0'
      refine ⟨vv, w, [], ?_, by simpa using how, ⟨rfl, rfl, rfl, Nat.le_refl _, fun _ _ _ => rfl⟩, .inl rfl, by simp, fun q c u hq => by simp [flat] at hq⟩
      rcases how.2 with ⟨rfl, hn⟩ | ⟨gb, cap, cur, rfl, _, _, hnc, _⟩
      · cases A <;> simp [Builtin.append_, run_underlying' ht, sizeOf, typeInfo, hi, Builtin.lenOf, Builtin.firstCells, loadCells, loadCellsFrom]
      · cases A <;> simp [Builtin.append_, run_underlying' ht, sizeOf, typeInfo, hi, Builtin.lenOf, Builtin.firstCells, hnc, storeCells, loadCells, loadCellsFrom]
    · obtain ⟨v1, w1, hr1, h2, h3, _, h5⟩ := run_append_own_at (P := P) w 0 t ty e i z i.size i.bytes ht hi hz rfl rfl hzs h0 vv xs.length cvs how ad ys.length c news n1 n2 n3 hmax hlen (Nat.zero_le _)
      exact ⟨v1, w1, news, hr1, h2, h3, h5, n1, n4⟩
  have gr := Grew.ofGrownBy hgrown
  have hadd := hs.slots.add (w' := w1) k (.list e i.size (xs ++ ys)) v1 vv.ownBlock gr hplace (fun b hb => by
      simp only [own] at hb
      have hlt : b < w1.heap.size := by
        rcases hown.2 with ⟨h1, _⟩ | ⟨gb, cap, cur, h1, _, hh, _⟩
        · rw [h1] at hb; simp [Value.ownBlock] at hb
        · rw [h1] at hb; simp [Value.ownBlock] at hb; subst hb
          exact (Array.getElem?_eq_some_iff.1 hh).1
      refine ⟨hlt, ?_⟩
      rcases hat with h1 | h1
      · exact .inr (.inl (h1.symm.trans hb))
      · rw [h1] at hb; injection hb with hb; exact .inl (by omega))
    (fun K' le _ _ => by
      refine ⟨cvs ++ news, by rw [List.length_append]; exact hown, ?_, ?_⟩
      · intro x hx
        rcases List.mem_append.1 hx with hx | hx
        · exact hss x hx
        · have h1 := oneSize_mem hsz x hx
          refine ⟨h1.1, ?_⟩
          intro c hc
          cases x with
          | tup zs => exact absurd rfl (h1.2 zs)
          | agg cs =>
            -- cells of an element are cells of the source
            obtain ⟨q, hq⟩ := List.getElem?_of_mem hx
            obtain ⟨j, hj⟩ := List.getElem?_of_mem hc
            have hjl : j < i.size := by have := (List.getElem?_eq_some_iff.1 hj).1; rw [h1.1] at this; exact this
            have hf := (flat_at (fun y hy => (oneSize_mem hsz y hy).1) hq j hjl).trans hj
            rcases hnews with h0' | ⟨ad, news', rfl, n1, n2, n3, n4⟩
            · subst h0'; simp at hq
            · have hlt : q * i.size + j < news'.length := by
                have hqlt := (List.getElem?_eq_some_iff.1 hq).1
                have : (q + 1) * i.size ≤ ys.length * i.size := Nat.mul_le_mul_right _ hqlt
                rw [Nat.add_mul] at this; omega
              have := n4 _ c news'[q * i.size + j] hf (by simp [hlt])
              exact one_of_rel this (n3 _ (List.getElem_mem hlt))
          | _ => simp [IV.cells] at hc; subst hc; rfl
      · intro q c u hq hu
        rw [flat_append] at hq
        have hfl := flat_len (xs := xs) (sz := i.size) (fun x hx => (hss x hx).1)
        by_cases hlt : q < (flat xs).length
        · rw [List.getElem?_append_left hlt] at hq
          rw [List.getElem?_append_left (by rw [how.1]; omega)] at hu
          exact (hr q c u hq hu).stays le.1
        · rw [List.getElem?_append_right (by omega)] at hq
          rw [List.getElem?_append_right (by rw [how.1]; omega), how.1, ← hfl] at hu
          exact (hnr _ c u hq hu).stays le.1)
  rw [hs.slots.nxt k] at hadd
  have hrel := TRel.lst (K := K.add k v1) (w := w1) k (nxt s.σ k) (by simp [Kr.add, hs.slots.nxt k])
  have hA1 : (K.add k v1).A k (nxt s.σ k) = v1 := by simp [Kr.add, hs.slots.nxt k]
  rw [hA1] at hrel
  refine ⟨K.add k v1, w1, v1, ?_, hrel, hadd.1, hadd.2⟩
  simp [execOp, resolve, invoke, builtin, hvv, hu, hrun]

/-! ### bytes to a string -/
def unB : IV → Option UInt8
  | .int .u8 n => some (UInt8.ofNat n.toNat)
  | _ => none
theorem unB_all : ∀ {xs : List IV} {bs : List UInt8}, xs.mapM unB = some bs → ∃ ns : List Int, xs = ns.map (fun n => .int .u8 n) ∧ bs = ns.map fun n => UInt8.ofNat n.toNat
  | [], bs, h => by simp at h; subst h; exact ⟨[], rfl, rfl⟩
  | x :: xs, bs, h => by
    simp only [List.mapM_cons, Option.pure_def, Option.bind_eq_bind, Option.bind_eq_some_iff, Option.some.injEq] at h
    obtain ⟨b, hb, bs', hbs, rfl⟩ := h
    obtain ⟨ns, rfl, rfl⟩ := unB_all hbs
    unfold unB at hb
    split at hb
    · rename_i n
      injection hb with hb; subst hb
      exact ⟨n :: ns, rfl, rfl⟩
    · cases hb

theorem ok_b2s {src dst e : TypeId} {x : Operand} {x' : AOpd} {v : TV} {xs : List IV} {bs : List UInt8} (h1 : P.underlying src = some (.slice e)) (h2 : P.underlying e = some (.int .u8)) (h3 : P.underlying dst = some .string)
    (tx : trOpd x = some x') (hx : ev s.ρ x' = some v) (hsrc : srcOf s.σ v = some xs) (hb : xs.mapM unB = some bs) : OpOk P N ⟨d, .convert src dst x, ty, ps, af, g⟩ s (.iv (.str ⟨bs.toArray⟩)) s.σ := by
  refine .pure fun K a w hs => ?_
  obtain ⟨ns, rfl, rfl⟩ := unB_all hb
  have hone : oneSize 1 (ns.map fun n => IV.int .u8 n) = true := by
    clear hsrc hb
    induction ns with
    | nil => rfl
    | cons n ns ih => simp [oneSize, IV.cells, ih]
  obtain ⟨A, c, hu, hnews⟩ := srcOf_rel hs.slots (ev_rel hs tx hx) hsrc hone
  refine ⟨.string (strOfNums ns), ?_, .iv _ _ (.str _)⟩
  have hrun : (convert src dst (.slice A ns.length c)).run P w = .ok (.string (strOfNums ns)) w := by
    rcases hnews with h0 | ⟨ad, news, rfl, n1, n2, n3, n4⟩
    · have : ns = [] := by simpa using h0
      subst this
      cases A with
      | none => exact run_convert_bytes_nil w src e h1 h2 0 c dst h3
      | some ad => simp [convert, run_underlying' h1, run_underlying' h2, run_underlying' h3, Conv.bytesToString, loadCells, loadCellsFrom, strOfNums]; rfl
    · have hf : flat (ns.map fun n => IV.int .u8 n) = ns.map fun n => IV.int .u8 n := by
        unfold flat
        clear n4 n3 n2 n1 hu hone hsrc hb
        induction ns with
        | nil => rfl
        | cons n ns ih => simp [IV.cells] at ih ⊢; exact ih
      have hadd : ad.spot = none → ad = ⟨ad.block, ad.off, none⟩ := fun e => by cases ad; simp at e; subst e; rfl
      by_cases h0 : ns = []
      · subst h0
        simp [convert, run_underlying' h1, run_underlying' h2, run_underlying' h3, Conv.bytesToString, loadCells, loadCellsFrom, strOfNums]; rfl
      · have cell : ∀ j, j < ns.length → w.cell? (ad.add j) = some (.int .u8 (ns.getD j 0)) := by
          intro j hj
          have hjn : j < news.length := by rw [n1]; simpa using hj
          have e1 := n2 j news[j] (by simp [hjn])
          have e2 := n4 j (.int .u8 (ns.getD j 0)) news[j] (by rw [hf]; simp [List.getD, hj]) (by simp [hjn])
          generalize news[j] = nj at e1 e2
          cases e2
          exact e1
        have hsp : ad.spot = none := by
          have := cell 0 (List.length_pos_iff.2 h0)
          simp only [Addr.add, if_true, World.cell?] at this
          split at this
          · split at this
            · cases this
            · rename_i hh; cases hs' : ad.spot with
              | none => rfl
              | some _ => simp [hs'] at hh
          · cases this
        rw [hadd hsp]
        refine run_convert_bytes_arg w src e h1 h2 ad.block ad.off ns.length c ns rfl (fun j hj => ?_) dst h3
        have := cell j hj
        rw [hadd hsp, Addr.add_mid] at this
        exact this
  simp only [List.length_map] at hu
  simp only [execOp, hu, Sem.run_bind, hrun]; rfl

end
end Go.Proofs.YtdlgenppdgkacaaGreatDoor.Ag
