/- The operations as data: each translated from the model's, each with what it gives. -/
import Derived.Test.YtdlgenppdgkacaaGreatDoorAgT
set_option linter.unusedVariables false
set_option linter.unusedSimpArgs false
namespace Go.Proofs.YtdlgenppdgkacaaGreatDoor.Ag
open Go.RowKit (Below)

inductive AOp where
  | mov (x : AOpd)
  | pick (c x y : AOpd)
  | pickb (c x y : AOpd)
  | bin (tb : Bool) (op : BinOp) (x y : AOpd)
  | un (op : UnOp) (x : AOpd)
  | conv (k : IntKind) (x : AOpd)
  | ext (i : Nat) (x : AOpd)
  | len (str : Bool) (x : AOpd)
  | idxA (sz : Nat) (x y : AOpd)
  | idxS (x y : AOpd)
  | fldA (off sz : Nat) (ag : Bool) (x : AOpd)
  | fld (off sz : Nat) (ag : Bool) (x : AOpd)
  | load (sz : Nat) (ag : Bool) (x : AOpd)
  | store (sz : Nat) (x y : AOpd)
  | boxI (x : AOpd)
  | box (k : Nat) (x : AOpd)
  | alloc (k : Nat) (zs : List IV)
  | build (zs : List IV) (parts : List (Nat × Nat × AOpd))
  | bslice (sz : Nat) (xs : List AOpd)
  | slc (sz : Nat) (x : AOpd) (lo hi mx : Option AOpd)
  | slcS (x : AOpd) (lo hi : Option AOpd)
  | slcP (k sz : Nat) (x hi : AOpd)
  | slcQ (sz : Nat) (x hi : AOpd)
  | slcH (sz : Nat) (x hi : AOpd)
  | slcT (p sz : Nat) (x lo : AOpd)
  | clr (sz : Nat) (y : IV) (x : AOpd)
  | bad
  | mkif (t : TypeId) (x : AOpd)
  | tas (t : TypeId) (z : IV) (x : AOpd)
  | panicA (x : AOpd)
  | eqnil (ng : Bool) (x : AOpd)
  | slcL (sz : Nat) (x : AOpd) (lo hi mx : Option AOpd)
  | appD (sz : Nat) (x y : AOpd)
  | storeS (sz : Nat) (x y : AOpd)
  | app (k0 e sz bytes : Nat) (x y : AOpd)
  | b2s (x : AOpd)
  | mks (k e sz bytes : Nat) (y : IV) (x c : AOpd)
  | blist (k e sz : Nat)
  | mm (isMax : Bool) (x y : AOpd)
  | nilck (x : AOpd)
  | call (f : FuncId) (args : List AOpd)
  | callv (x : AOpd) (args : List AOpd)
  | blit (k e sz : Nat) (xs : List AOpd)
  | lenm (x : AOpd)
  | mkmap (k : Nat) (kd : KKind)
  | look (kd : KKind) (z : IV) (ok : Bool) (x y : AOpd)
  | mapset (kd : KKind) (x y z : AOpd)
  | mkfn (f : Fn) (fs cs : List AOpd)
  | arrV (len sz : Nat) (ag : Bool) (x y : AOpd)
  | arrA (len sz : Nat) (x y : AOpd)
  | eqs (ks : List SK) (ng : Bool) (x y : AOpd)

def isStr : TV → Bool
  | .iv (.str _) => true
  | _ => false
def isBoolIV : IV → Bool
  | .bool _ => true
  | _ => false
/-- Two slots that differ. -/
def sepT : AOpd → AOpd → Bool
  | .t m, .t n => m != n
  | _, _ => false
def notNil : TV → Bool
  | .iv (.ref _) => true
  | .loc _ _ _ => true
  | .el _ _ _ _ _ => true
  | _ => false

/-- What an operation gives (calls aside). -/
def aop (ρ : List (Nat × TV)) (σ : Slots) : AOp → Option (TV × Slots)
  | .mov x => match ev ρ x with
    | some v => some (v, σ)
    | none => none
  | .pick c x y => match ev ρ c with
    | some (.iv (.bool t)) => match (if t then ev ρ x else ev ρ y) with
      | some v => some (v, σ)
      | none => none
    | _ => none
  | .pickb c x y => match ev ρ c with
    | some (.iv (.bool t)) => match pickB t (ev ρ x) (ev ρ y) with
      | some v => some (.iv v, σ)
      | none => none
    | _ => none
  | .bin tb op x y => match ev ρ x, ev ρ y with
    | some (.iv a), some (.iv b) => if isBoolIV a && !tb then none else match bin2 op a b with
      | some z => some (.iv z, σ)
      | none => none
    | _, _ => none
  | .eqs ks ng x y => match ev ρ x, ev ρ y with
    | some (.iv a), some (.iv b) => match eqs ng ks a b with
      | some z => some (.iv z, σ)
      | none => none
    | _, _ => none
  | .un op x => match ev ρ x with
    | some (.iv a) => match un1 op a with
      | some z => some (.iv z, σ)
      | none => none
    | _ => none
  | .conv k x => match ev ρ x with
    | some (.iv (.int _ n)) => some (.iv (.int k (k.wrap n)), σ)
    | _ => none
  | .ext i x => match ev ρ x with
    | some (.iv (.tup xs)) => match xs[i]? with
      | some c => some (.iv c, σ)
      | none => none
    | some (.tup xs) => match xs[i]? with
      | some c => some (c, σ)
      | none => none
    | _ => none
  | .len str x => match ev ρ x with
    | some v => if isStr v = str then match lenOf σ v with
        | some n => some (.iv (.int .i64 n), σ)
        | none => if str then none else match lenT σ v with
          | some n => some (.iv (.int .i64 n), σ)
          | none => none
      else none
    | none => none
  | .idxA sz x y => match ev ρ x, ev ρ y with
    | some (.iv (.slice xs)), some (.iv (.int _ n)) => if 0 ≤ n then match xs[n.toNat]? with
        | some z => if z.cells.length = sz then some (.iv (.ref z), σ) else none
        | none => none
      else none
    | some (.lst k m), some (.iv (.int _ n)) => match idxL σ sz n k m with
      | some r => some (r, σ)
      | none => none
    | _, _ => none
  | .idxS x y => match ev ρ x, ev ρ y with
    | some (.iv (.str b)), some (.iv (.int _ n)) => if 0 ≤ n then match b.data.toList[n.toNat]? with
        | some z => some (.iv (.int .u8 z.toNat), σ)
        | none => none
      else none
    | _, _ => none
  | .fldA off sz ag x => match ev ρ x with
    | some v => match fldA off sz ag v with
      | some r => some (r, σ)
      | none => none
    | none => none
  | .fld off sz ag x => match ev ρ x with
    | some v => match fldV off sz ag v with
      | some r => some (r, σ)
      | none => none
    | none => none
  | .load sz ag x => match ev ρ x with
    | some v => match loadOf σ sz ag v with
      | some r => some (r, σ)
      | none => match loadT σ sz ag v with
        | some r => some (r, σ)
        | none => none
    | none => none
  | .store sz x y => match ev ρ x, ev ρ y with
    | some p, some v => match storeOf σ sz p v with
      | some σ' => some (.dead, σ')
      | none => match storeT σ sz p v with
        | some σ' => some (.dead, σ')
        | none => none
    | _, _ => none
  | .boxI x => match ev ρ x with
    | some v => match shut v σ with
      | some (.tup _, _) => none
      | some (y, σ') => some (.iv (.ref y), σ')
      | none => none
    | none => none
  | .box k x => match ev ρ x with
    | some v => match cellsOf σ v with
      | some cs => some (.loc k (nxt σ k) 0, upd σ k (nxt σ k, .box cs))
      | none => none
    | none => none
  | .alloc k zs => some (.loc k (nxt σ k) 0, upd σ k (nxt σ k, .box (zs.map .iv)))
  | .build zs parts => match fillTV σ ρ (zs.map .iv) parts with
    | some cs => some (mkAgg cs, σ)
    | none => none
  | .bslice sz xs => match evAll ρ xs with
    | some vs => match shutAll vs σ with
      | some (ys, σ') => if oneSize sz ys then some (.iv (.slice ys), σ') else none
      | none => none
    | none => none
  | .slc sz x lo hi mx => match ev ρ x, evOpt ρ lo, evOpt ρ hi, evOpt ρ mx with
    | some v, some l, some h, some m => match shut v σ with
      | some (.slice xs, σ') => if oneSize sz xs then match cutAt xs.length l h m with
          | some (p, q) => some (.iv (.slice (cut xs p q)), σ')
          | none => none
        else none
      | _ => none
    | _, _, _, _ => none
  | .slcS x lo hi => match ev ρ x, evOpt ρ lo, evOpt ρ hi with
    | some (.iv (.str b)), some l, some h => match cutAt b.size l h none with
      | some (p, q) => some (.iv (.str (b.extract p q)), σ)
      | none => none
    | _, _, _ => none
  | .slcP k sz x hi => match ev ρ x, evOpt ρ (some hi) with
    | some v, some (some h) => match shut v σ with
      | some (.slice zs, σ1) => if oneSize sz zs && decide (0 ≤ h) && decide (h ≤ zs.length) then some (.lst k (nxt σ1 k), upd σ1 k (nxt σ1 k, .pre (zs.take h.toNat) (zs.drop h.toNat))) else none
      | _ => none
    | _, _ => none
  | .slcQ sz x hi => match ev ρ x, evOpt ρ (some hi) with
    | some (.lst k n), some (some h) => match lk σ k with
      | some (n', .pre xs ys) => if oneSize sz (xs ++ ys) && decide (n = n') && decide (0 ≤ h) && decide (h ≤ xs.length + ys.length) then some (.iv (.slice ((xs ++ ys).take h.toNat)), σ) else none
      | _ => none
    | _, _ => none
  | .slcH sz x hi => match ev ρ x, evOpt ρ (some hi) with
    | some (.lst k n), some (some h) => match lk σ k with
      | some (n', it) => if n = n' ∧ 0 ≤ h then match truncI h.toNat it with
          | some it' => some (.lst k (nxt σ k), upd σ k (nxt σ k, it'))
          | none => none
        else none
      | none => none
    | some (.iv z), some (some h) => match nrm z with
      | .slice xs => if oneSize sz xs && decide (0 ≤ h) && decide (h ≤ xs.length) then some (.iv (.slice (cut xs 0 h.toNat)), σ) else none
      | _ => none
    | _, _ => none
  | .slcT p sz x lo => match ev ρ x, evOpt ρ (some lo) with
    | some (.lst k n), some (some l) => match lk σ k with
      | some (n', it) => match tcells it with
        | some (_, sz', cs) => if n = n' ∧ sz = sz' ∧ 0 < sz ∧ 0 ≤ l ∧ l.toNat * sz ≤ cs.length then some (.lst p (nxt σ p), upd σ p (nxt σ p, .sub k n sz l.toNat)) else none
        | none => none
      | none => none
    | some (.iv z), some (some l) => match nrm z with
      | .slice xs => if oneSize sz xs && decide (0 ≤ l) && decide (l ≤ xs.length) then some (.iv (.slice (cut xs l.toNat xs.length)), σ) else none
      | _ => none
    | _, _ => none
  | .slcL sz x lo hi mx => match ev ρ x, evOpt ρ lo, evOpt ρ hi, evOpt ρ mx with
    | some (.lst k n), some l, some h, some m => match lk σ k with
      | some (n', it) => match tcells it with
        | some (_, sz', cs) => if (n = n' ∧ sz = sz' ∧ 0 < sz) ∧ 0 ≤ l.getD 0 ∧ l.getD 0 ≤ h.getD (cs.length / sz : Nat) ∧ h.getD (cs.length / sz : Nat) ≤ m.getD (max (cs.length / sz) (capOf σ k n) : Nat) ∧ m.getD (max (cs.length / sz) (capOf σ k n) : Nat) ≤ (max (cs.length / sz) (capOf σ k n) : Nat) then
            some (.sl k n sz (l.getD 0).toNat (h.getD (cs.length / sz : Nat)).toNat m.isNone, σ) else none
        | none => none
      | none => none
    | _, _, _, _ => none
  | .appD sz x y => match ev ρ x, ev ρ y with
    | some (.sl k n z 0 hi true), some (.sl _ _ _ j m _) => match lk σ k with
      | some (n', it) => match tcells it, truncI hi it with
        | some (_, sz', cs), some it' => if n = n' ∧ sz' = sz ∧ z = sz ∧ 0 < sz ∧ j = m then
            some (.lst k (nxt σ k), upd (upd σ k (nxt σ k, it')) (k + 1000003) (nxt σ (k + 1000003), .capI k (nxt σ k) (cs.length / sz))) else none
        | _, _ => none
      | none => none
    | _, _ => none
  | .clr sz y x => match ev ρ x with
    | some (.sl k n z j m _) => match lk σ k with
      | some (n', it) => match tcells it with
        | some (_, z', cs) => if n = n' ∧ z = sz ∧ z' = sz ∧ cs.length ≤ j * sz then some (.tup [], upd σ k (n, it)) else none
        | none => none
      | none => none
    | some (.lst p m) => match lk σ p with
      | some (m', .sub k n z j) => match lk σ k with
        | some (n', it) => match tcells it, clrI j y it with
          | some (_, z', _), some it' => if m = m' ∧ n = n' ∧ z = sz ∧ z' = sz then some (.tup [], upd σ k (n, it')) else none
          | _, _ => none
        | none => none
      | _ => none
    | _ => none
  | .bad => none
  | .panicA _ => none
  | .eqnil ng x => match ev ρ x with
    | some (.iv .niliface) => some (.iv (.bool (if ng then !true else true)), σ)
    | some (.iv (.iface _ _)) => some (.iv (.bool (if ng then !false else false)), σ)
    | _ => none
  | .mkif t x => match ev ρ x with
    | some (.iv y) => some (.iv (.iface t y), σ)
    | _ => none
  | .tas t z x => match ev ρ x with
    | some (.iv (.iface u v)) => some (if u = t then .tup [.iv v, .iv (.bool true)] else .tup [.iv z, .iv (.bool false)], σ)
    | some (.iv .niliface) => some (.tup [.iv z, .iv (.bool false)], σ)
    | _ => none
  | .storeS sz x y => if sepT x y then match ev ρ x, ev ρ y with
    | some p, some v => match shut v σ with
      | some (z, σ1) => match storeOf σ1 sz p (.iv z) with
        | some σ' => some (.dead, σ')
        | none => match storeT σ1 sz p (.iv z) with
          | some σ' => some (.dead, σ')
          | none => none
      | none => none
    | _, _ => none
    else none
  | .app k0 e sz bytes x y => match ev ρ x, ev ρ y with
    | some v, some u => match dstOf σ k0 e sz v, srcOf σ u with
      | some (k, xs), some ys => if oneSize sz ys then if (xs.length + ys.length) * bytes ≤ 140737488355328 then
            some (.lst k (nxt σ k), upd σ k (nxt σ k, .list e sz (xs ++ ys))) else none
        else none
      | _, _ => match dstT σ k0 e sz v, srcT σ sz u with
        | some (k, cs), some (m, ds) => if (cs.length / sz + m) * bytes ≤ 140737488355328 then
            some (.lst k (nxt σ k), upd σ k (nxt σ k, .tl e sz (cs ++ ds))) else none
        | _, _ => none
    | _, _ => none
  | .b2s x => match ev ρ x with
    | some v => match srcOf σ v with
      | some xs => match xs.mapM unB with
        | some bs => some (.iv (.str ⟨bs.toArray⟩), σ)
        | none => none
      | none => none
    | none => none
  | .nilck x => match ev ρ x with
    | some v => if notNil v then some (v, σ) else none
    | none => none
  | .mks k e sz bytes y x c => match ev ρ x, ev ρ c with
    | some (.iv (.int _ l)), some (.iv (.int _ m)) => if 0 ≤ l ∧ l ≤ m ∧ m * bytes ≤ 140737488355328 then
        some (.lst k (nxt σ k), upd σ k (nxt σ k, .list e sz (List.replicate l.toNat y))) else none
    | _, _ => none
  | .blist k e sz => some (.lst k (nxt σ k), upd σ k (nxt σ k, .list e sz []))
  | .mm isMax x y => match ev ρ x, ev ρ y with
    | some (.iv (.int k a)), some (.iv (.int _ b)) => some (.iv (.int k (if isMax then (if a < b then b else a) else (if b < a then b else a))), σ)
    | _, _ => none
  | .call _ _ => none
  | .callv _ _ => none
  | .blit k e sz xs => match evAll ρ xs with
    | some vs => match litCells σ sz vs with
      | some cs => some (.lst k (nxt σ k), upd σ k (nxt σ k, .tl e sz cs))
      | none => none
    | none => none
  | .lenm x => match ev ρ x with
    | some v => match lenM σ v with
      | some n => some (.iv (.int .i64 n), σ)
      | none => none
    | none => none
  | .mkmap k kd => some (.mp k (nxt σ k), upd σ k (nxt σ k, .map kd []))
  | .look kd z ok x y => match ev ρ x, ev ρ y with
    | some v, some (.iv key) => match lookOf σ kd z ok v key with
      | some r => some (r, σ)
      | none => none
    | _, _ => none
  | .mapset kd x y z => match ev ρ x, ev ρ y, ev ρ z with
    | some v, some (.iv key), some u => match mapsetOf σ kd v key u with
      | some σ' => some (.dead, σ')
      | none => none
    | _, _, _ => none
  | .mkfn f fs cs => match evAll ρ fs, evAll ρ cs with
    | some vs, some us => some (.fn f vs us, σ)
    | _, _ => none
  | .arrV len sz ag x y => match ev ρ x, ev ρ y with
    | some v, some (.iv (.int _ n)) => if 0 ≤ n ∧ n < len then match fldV (n.toNat * sz) sz ag v with
        | some r => some (r, σ)
        | none => none
      else none
    | _, _ => none
  | .arrA len sz x y => match ev ρ x, ev ρ y with
    | some v, some (.iv (.int _ n)) => if 0 ≤ n ∧ n < len then match Ag.arrA (n.toNat * sz) v with
        | some r => some (r, σ)
        | none => none
      else none
    | _, _ => none

/-! ### the translation -/
def agOf (P : Program) (t : TypeId) : Option Bool :=
  match P.underlying t with
  | some (.struct _) => some true
  | some (.array _ _) => some true
  | some _ => some false
  | none => none
theorem agOf_is {P : Program} {t : TypeId} {ag : Bool} (h : agOf P t = some ag) : aggIs P t ag := by
  unfold agOf at h
  split at h
  · rename_i fs hd; injection h with h; subst h; exact ⟨_, hd, rfl⟩
  · rename_i n e hd; injection h with h; subst h; exact ⟨_, hd, rfl⟩
  · rename_i d h1 h2 hd; injection h with h; subst h
    refine ⟨_, hd, ?_⟩
    cases d <;> first | rfl | exact absurd rfl (h1 _) | exact absurd rfl (h2 _ _)
  · cases h
def zeroOf (P : Program) (t : TypeId) : Option (List IV) :=
  match P.info? t with
  | some i => match i.zero with
    | some z => ivCells z
    | none => none
  | none => none
theorem zeroOf_is {P : Program} {t : TypeId} {zs : List IV} (h : zeroOf P t = some zs) : zeroIs P t zs := by
  unfold zeroOf at h
  split at h
  · rename_i i hi
    split at h
    · rename_i z hz; exact ⟨i, z, hi, hz, h⟩
    · cases h
  · cases h

/-- The zero element of a slice. -/
def zeroElV (ag : Bool) (z : Value) : Option IV :=
  match ivCells z with
  | some zs => if ag then some (.agg zs) else match zs with
    | [x] => some x
    | _ => none
  | none => none
theorem zeroElV_cells {ag : Bool} {z : Value} {y : IV} (h : zeroElV ag z = some y) : ivCells z = some y.cells := by
  unfold zeroElV at h
  split at h
  · rename_i zs hz
    split at h
    · injection h with h; subst h; exact hz
    · split at h
      · rename_i x
        injection h with h; subst h
        have := (ivCells_rel hz (fun _ => False) default).2.1 x (by simp)
        rw [hz]
        cases x <;> first | rfl | simp [IV.one] at this
      · cases h
  · cases h

def trOpt? : Option Operand → Option (Option AOpd)
  | none => some none
  | some x => match trOpd x with
    | some y => some (some y)
    | none => none
theorem trOpt?_is {x : Option Operand} {y : Option AOpd} (h : trOpt? x = some y) : trOpt x y := by
  cases x with
  | none => simp [trOpt?] at h; subst h; trivial
  | some x =>
    simp only [trOpt?] at h
    split at h
    · rename_i y' hy; injection h with h; subst h; exact hy
    · cases h

def trParts (pl : Nat → Option (Nat × Nat)) : List (Nat × Operand) → Option (List (Nat × Nat × AOpd))
  | [] => some []
  | (i, x) :: l => match pl i, trOpd x, trParts pl l with
    | some (off, sz), some y, some r => some ((off, sz, y) :: r)
    | _, _, _ => none
theorem trParts_is {pl : Nat → Option (Nat × Nat)} : ∀ {l : List (Nat × Operand)} {r : List (Nat × Nat × AOpd)}, trParts pl l = some r → PartsTr pl l r
  | [], r, h => by simp [trParts] at h; subst h; trivial
  | (i, x) :: l, r, h => by
    simp only [trParts] at h
    split at h
    · rename_i off sz y r' h1 h2 h3
      injection h with h; subst h
      exact ⟨h1, h2, trParts_is h3⟩
    · cases h

/-- The parts of a slice's literal, where they are whole and in order. -/
def inOrder : Nat → List (Nat × Operand) → Option (List Operand)
  | _, [] => some []
  | n, (i, x) :: l => if i = n then match inOrder (n + 1) l with
      | some r => some (x :: r)
      | none => none
    else none
theorem inOrder_is : ∀ {l : List (Nat × Operand)} {n : Nat} {r : List Operand}, inOrder n l = some r → l = (r.zipIdx n).map fun x => (x.2, x.1)
  | [], n, r, h => by simp [inOrder] at h; subst h; rfl
  | (i, x) :: l, n, r, h => by
    simp only [inOrder] at h
    split at h
    · rename_i hi; subst hi
      split at h
      · rename_i r' hr
        injection h with h; subst h
        simp only [List.zipIdx_cons, List.map_cons]
        rw [inOrder_is hr]
      · cases h
    · cases h

/-- A choice's place for an append: 906 is kept for another thing. -/
def shK (ch : Nat) : Nat := if ch < 906 then ch else ch - 1
def unK (k : Nat) : Nat := if k < 906 then k else k + 1
theorem shK_unK (k : Nat) : shK (unK k) = k := by
  unfold shK unK
  by_cases h : k < 906
  · rw [if_pos h, if_pos h]
  · rw [if_neg h, if_neg (by omega)]; omega
theorem unK_ne (k : Nat) : unK k ≠ 906 := by unfold unK; split <;> omega
/-- An operation's translation. 'ch': for what makes memory, 0: nobody will write it; k + 1: the call's own, at place k. -/
def trOp0 (P : Program) (ch : Nat) (o : Oper) : Option AOp :=
  match o.op with
  | .move x => match trOpd x with | some x' => some (.mov x') | none => none
  | .assign x => match trOpd x with | some x' => some (.mov x') | none => none
  | .pick c x y => match trOpd c, trOpd x, trOpd y with | some c', some x', some y' => some (if boolType P o.type then .pickb c' x' y' else .pick c' x' y') | _, _, _ => none
  | .binOp op t x y _ => match trOpd x, trOpd y with
    | some x', some y' => (match eqOf op, structKinds P t with
      | some ng, some ks => some (.eqs ks ng x' y')
      | _, _ => some (.bin (boolType P t) op x' y'))
    | _, _ => none
  | .unOp op _ x => match trOpd x with | some x' => some (.un op x') | none => none
  | .convert src dst x => match trOpd x with
    | some x' => match P.underlying src, P.underlying dst with
      | some (.slice e), some .string => (match P.underlying e with | some (.int .u8) => some (.b2s x') | _ => none)
      | some _, some (.int k) => some (.conv k x')
      | _, _ => none
    | none => none
  | .extract x i => match trOpd x with | some x' => some (.ext i x') | none => none
  | .indexAddr t x y => match P.underlying t with
    | some (.slice e) => (match P.info? e, trOpd x, trOpd y with | some i, some x', some y' => some (.idxA i.size x' y') | _, _, _ => none)
    | some (.array len e) => (match P.info? e, trOpd x, trOpd y with | some i, some x', some y' => some (.arrA len i.size x' y') | _, _, _ => none)
    | _ => none
  | .index t x y => match P.underlying t with
    | some .string => (match trOpd x, trOpd y with | some x', some y' => some (.idxS x' y') | _, _ => none)
    | some (.array len e) => (match P.info? e, agOf P e, trOpd x, trOpd y with | some i, some ag, some x', some y' => some (.arrV len i.size ag x' y') | _, _, _, _ => none)
    | _ => none
  | .fieldAddr t x fi => match P.underlying t with
    | some (.struct fs) => (match fs[fi]? with
      | some f => (match P.info? f.type, agOf P f.type, trOpd x with | some i, some ag, some x' => if i.size = 0 then none else some (.fldA f.offset i.size ag x') | _, _, _ => none)
      | none => none)
    | _ => none
  | .field t x fi => match P.underlying t with
    | some (.struct fs) => (match fs[fi]? with
      | some f => (match P.info? f.type, agOf P f.type, trOpd x with | some i, some ag, some x' => some (.fld f.offset i.size ag x') | _, _, _ => none)
      | none => none)
    | _ => none
  | .load t x => match P.info? t, agOf P t, trOpd x with | some i, some ag, some x' => some (.load i.size ag x') | _, _, _ => none
  | .store t x y => match P.info? t, trOpd x, trOpd y with | some i, some x', some y' => some (.store i.size x' y') | _, _, _ => none
  | .box _ x => match trOpd x with | some x' => some (match ch with | 0 => .boxI x' | k + 1 => .box k x') | none => none
  | .alloc e => match zeroOf P e with | some zs => (match ch with | k + 1 => some (.alloc k zs) | 0 => none) | none => none
  | .build t parts => match placesOf P t, zeroOf P t with
    | some pl, some zs => (match trParts pl parts.toList with | some r => some (.build zs r) | none => none)
    | _, _ => none
  | .buildSlice t n parts => match P.underlying t with
    | some (.slice e) => (match P.info? e, inOrder 0 parts.toList with
      | some i, some ops => (match i.zero, ops.mapM trOpd with
        | some _, some r => if n = 0 ∧ parts.isEmpty then some (.blist ch e i.size) else if 0 < i.size ∧ ops.length * i.size ≤ 2 ^ 24 ∧ n = ops.length ∧ n ≠ 0 then some (match ch with | 0 => .bslice i.size r | k + 1 => .blit k e i.size r) else none
        | _, _ => none)
      | _, _ => none)
    | _ => none
  | .slice t x lo hi mx => match P.underlying t with
    | some (.slice e) => (match P.info? e, trOpd x, trOpt? lo, trOpt? hi, trOpt? mx with
      | some i, some x', some lo', some hi', some mx' => if mx.isSome && !hi.isSome then none else match ch, hi', lo.isNone && mx.isNone with
        | 1, some h', true => some (.slcQ i.size x' h')
        | k + 2, some h', true => some (.slcP k i.size x' h')
        | _, _, _ => some (.slc i.size x' lo' hi' mx')
      | _, _, _, _, _ => none)
    | some .string => (match trOpd x, trOpt? lo, trOpt? hi, mx with | some x', some lo', some hi', none => some (.slcS x' lo' hi') | _, _, _, _ => none)
    | _ => none
  | .nilCheck x => match trOpd x with | some x' => some (.nilck x') | none => none
  | .makeSlice t x c => match P.underlying t with
    | some (.slice e) => (match P.info? e, agOf P e, trOpd x, trOpd c with
      | some i, some ag, some x', some c' => (match i.zero with
        | some z => (match zeroElV ag z with
          | some y => if y.cells.length = i.size ∧ 0 < i.bytes then some (.mks ch e i.size i.bytes y x' c') else none
          | none => none)
        | none => none)
      | _, _, _, _ => none)
    | _ => none
  | .call c => match c.callee with
    | .builtin .len => (match c.args.toList, c.argTypes.toList with
      | [x], [t] => (match trOpd x, P.underlying t with
        | some x', some (.slice _) => some (.len false x')
        | some x', some (.map _ _) => some (.lenm x')
        | some x', some .string => some (.len true x')
        | _, _ => none)
      | _, _ => none)
    | .builtin .append => (match c.args.toList, c.argTypes.toList with
      | [x, y], [t, t'] => if t = t' then (match P.underlying t with
        | some (.slice e) => (match P.info? e, trOpd x, trOpd y with
          | some i, some x', some y' => (match i.zero with
            | some z => if z.cells.size = i.size ∧ 0 < i.size ∧ 0 < i.bytes then some (.app (shK ch) e i.size i.bytes x' y') else none
            | none => none)
          | _, _, _ => none)
        | _ => none) else none
      | _, _ => none)
    | .builtin .max => (match c.args.toList with | [x, y] => (match trOpd x, trOpd y with | some x', some y' => some (.mm true x' y') | _, _ => none) | _ => none)
    | .builtin .min => (match c.args.toList with | [x, y] => (match trOpd x, trOpd y with | some x', some y' => some (.mm false x' y') | _, _ => none) | _ => none)
    | .value (.func f) => (match c.args.toList.mapM trOpd with | some as_ => some (.call f as_) | none => none)
    | .value x => (match trOpd x, c.args.toList.mapM trOpd with | some x', some as_ => some (.callv x' as_) | _, _ => none)
    | _ => none
  | .makeMap t none => match P.underlying t with
    | some (.map kt _) => (match keyDesc P kt with | some kd => some (.mkmap ch kd) | none => none)
    | _ => none
  | .lookup t x y ok => match P.underlying t with
    | some (.map kt et) => (match keyDesc P kt, P.info? et, trOpd x, trOpd y with
      | some kd, some i, some x', some y' => (match i.zero with
        | some z => (match ivC z with | some zi => some (.look kd zi ok x' y') | none => none)
        | none => none)
      | _, _, _, _ => none)
    | _ => none
  | .mapUpdate t x y z => match P.underlying t with
    | some (.map kt _) => (match keyDesc P kt, trOpd x, trOpd y, trOpd z with | some kd, some x', some y', some z' => some (.mapset kd x' y' z') | _, _, _, _ => none)
    | _ => none
  | .makeFunc f first captured => match first.toList.mapM trOpd, captured.toList.mapM trOpd with
    | some fs, some cs => some (.mkfn f fs cs)
    | _, _ => none
  | _ => none

def trX1 (P : Program) (ch : Nat) (t : TypeId) (x : Operand) (lo hi mx : Option Operand) : Option AOp :=
  match lo, hi, mx with
  | none, some hi, none => if ch = 901 then (match P.underlying t with
    | some (.slice e) => (match P.info? e, trOpd x, trOpd hi with
      | some i, some x', some h' => some (.slcH i.size x' h')
      | _, _, _ => none)
    | _ => none) else none
  | some lo, none, none => if 1000 ≤ ch then (match P.underlying t with
    | some (.slice e) => (match P.info? e, trOpd x, trOpd lo with
      | some i, some x', some l' => some (.slcT (ch - 1000) i.size x' l')
      | _, _, _ => none)
    | _ => none) else none
  | _, _, _ => none
/-- The slices and clears of the call's own lists. 901: cut at its end; 904: a store of what nobody writes from then on; 902: clear; 1000 + p: a tail, at place p. -/
def trX0 (P : Program) (ch : Nat) (o : Oper) : Option AOp :=
  match o.op with
  | .slice t x lo hi mx => if ch = 905 then (match P.underlying t with
    | some (.slice e) => (match P.info? e, trOpd x, trOpt? lo, trOpt? hi, trOpt? mx with
      | some i, some x', some lo', some hi', some mx' => if mx.isSome && !hi.isSome then none else some (.slcL i.size x' lo' hi' mx')
      | _, _, _, _, _ => none)
    | _ => none) else trX1 P ch t x lo hi mx
  | .call c => if ch = 902 then (match c.callee, c.args.toList, c.argTypes.toList with
    | .builtin .clear, [x], [t] => (match P.underlying t with
      | some (.slice e) => (match P.info? e, agOf P e, trOpd x with
        | some i, some ag, some x' => (match i.zero with
          | some z => (match zeroElV ag z with
            | some y => if y.cells.length = i.size ∧ 0 < i.size then some (.clr i.size y x') else none
            | none => none)
          | none => none)
        | _, _, _ => none)
      | _ => none)
    | _, _, _ => none) else if ch = 906 then (match c.callee, c.args.toList, c.argTypes.toList with
    | .builtin .append, [x, y], [t, t'] => if t = t' then (match P.underlying t with
      | some (.slice e) => (match P.info? e, trOpd x, trOpd y with
        | some i, some x', some y' => some (.appD i.size x' y')
        | _, _, _ => none)
      | _ => none) else none
    | _, _, _ => none) else none
  | .makeInterface t x => (match P.underlying t with
    | some (.interface _) => none
    | some _ => (match trOpd x with | some x' => some (.mkif t x') | none => none)
    | none => none)
  | .typeAssert x _ t true => (match P.underlying t with
    | some (.interface _) => none
    | some _ => (match P.info? t, trOpd x with
      | some i, some x' => (match i.zero with
        | some z => (match ivC z with | some zi => some (.tas t zi x') | none => none)
        | none => none)
      | _, _ => none)
    | none => none)
  | .binOp op t x (.const .nilIface) _ => (match eqOf op, P.underlying t, trOpd x with
    | some ng, some (.interface _), some x' => some (.eqnil ng x')
    | _, _, _ => none)
  | .panic x => (match trOpd x with | some x' => some (.panicA x') | none => none)
  | .store t x y => if ch = 904 then (match P.info? t, trOpd x, trOpd y with | some i, some x', some y' => some (.storeS i.size x' y') | _, _, _ => none) else none
  | _ => none
def isDefer (o : Oper) : Bool := match o.op with
  | .defer _ => true
  | _ => false
def callOk (P : Program) (f : FuncId) : Bool :=
  match P.funcs[f]? with
  | some fn => fn.body.isSome && !(fn.name == "runtime.NumGoroutine")
  | none => false
def callIn (P : Program) : AOp → Bool
  | .call f _ => callOk P f
  | _ => true
/-- Each operation has a translation; one that isn't known gives nothing. -/
def trOp (P : Program) (ch : Nat) (o : Oper) : Option AOp :=
  match trX0 P ch o with
  | some r => some r
  | none => match trOp0 P ch o with
    | some r => if callIn P r then some r else some .bad
    | none => if isDefer o then none else some .bad

end Go.Proofs.YtdlgenppdgkacaaGreatDoor.Ag
