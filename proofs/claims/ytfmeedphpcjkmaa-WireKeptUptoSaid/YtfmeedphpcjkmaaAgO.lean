/- What came in, of types without pointers or maps, without memory. -/
import Derived.Test.YtfmeedphpcjkmaaAgR
import Derived.ChangeArms
set_option linter.unusedVariables false
set_option linter.unusedSimpArgs false
namespace Go.Proofs.Ytfmeedphpcjkmaa.Ag
open Go.RowKit (Below)

def fieldsOk (P : Program) (ts : List TypeId) (o : Nat) : List Field → Nat → Bool
  | [], n => decide (o = n)
  | f :: r, n => decide (f.offset = o) && ts.contains f.type && fieldsOk P ts (o + P.cellsOf f.type) r n
def plainT (P : Program) (ts : List TypeId) (t : TypeId) : Bool := match P.underlying t with
  | some .bool => true
  | some (.int _) => true
  | some .string => true
  | some (.slice e) => ts.contains e && decide (0 < P.cellsOf e)
  | some (.struct fs) => fieldsOk P ts 0 fs.toList (P.cellsOf t)
  | _ => false
/-- A set of types, closed: their parts are of the set. -/
def plainSet (P : Program) (ts : List TypeId) : Bool := ts.all (plainT P ts)

def ShpF (S : TypeId → IV → Prop) : List Field → List IV → Prop
  | [], [] => True
  | f :: fs, y :: ys => S f.type y ∧ ShpF S fs ys
  | _, _ => False
/-- What a value of a type looks like. -/
def Shp (P : Program) : Nat → TypeId → IV → Prop
  | 0, _, _ => False
  | f + 1, t, x => match P.underlying t with
    | some .bool => ∃ b, x = .bool b
    | some (.int k) => ∃ n, x = .int k n ∧ (Lit.int k n).wf = true
    | some .string => ∃ s : ByteArray, x = .str s ∧ s.size ≤ maxLen
    | some (.slice e) => ∃ xs, x = .slice xs ∧ ∀ y ∈ xs, Shp P f e y
    | some (.struct fs) => ∃ ys, x = .agg (flat ys) ∧ ShpF (Shp P f) fs.toList ys
    | _ => False

mutual
/-- How much there is to read. -/
def dBulk {H : Type} : DataW H → Nat
  | .lit (.string bytes) => bytes.length + 1
  | .lit _ => 1
  | .nil => 1
  | .ptr d => dBulk d + 1
  | .slice elems spare => dBulkAll elems + dBulkAll spare + 1
  | .agg parts => dBulkAll parts + 1
  | .iface _ d => dBulk d + 1
  | .map entries => dBulkEntries entries + 1
  | .held _ => 1
def dBulkAll {H : Type} : List (DataW H) → Nat
  | [] => 0
  | d :: r => dBulk d + dBulkAll r
def dBulkEntries {H : Type} : List (Lit × DataW H) → Nat
  | [] => 0
  | x :: r => dBulkEntry x + dBulkEntries r
def dBulkEntry {H : Type} : Lit × DataW H → Nat
  | (.string bytes, d) => bytes.length + dBulk d + 1
  | (_, d) => dBulk d + 1
end
mutual
def ivBulk : IV → Nat
  | .str s => s.data.toList.length + 1
  | .slice xs => ivBulks xs + 1
  | .agg cs => ivBulks cs + 1
  | _ => 1
def ivBulks : List IV → Nat
  | [] => 0
  | x :: xs => ivBulk x + ivBulks xs
end
theorem ivBulks_append : ∀ (a b : List IV), ivBulks (a ++ b) = ivBulks a + ivBulks b
  | [], b => by simp [ivBulks]
  | x :: a, b => by simp [ivBulks, ivBulks_append a b]; omega
theorem ivBulks_cells (y : IV) : ivBulks y.cells ≤ ivBulk y := by
  cases y <;> simp [IV.cells, ivBulks, ivBulk]
theorem ivBulks_flat : ∀ (ys : List IV), ivBulks (flat ys) ≤ ivBulks ys
  | [] => Nat.le_refl _
  | y :: ys => by
    have h1 := ivBulks_flat ys
    have h2 := ivBulks_cells y
    simp only [flat, List.flatMap_cons, ivBulks_append, ivBulks] at h1 ⊢
    omega
theorem ivBulks_len : ∀ (xs : List IV), xs.length ≤ ivBulks xs
  | [] => Nat.le_refl _
  | x :: xs => by
    have h1 := ivBulks_len xs
    have h2 : 1 ≤ ivBulk x := by cases x <;> simp [ivBulk]
    simp only [ivBulks, List.length_cons]; omega

def Opens (W : World) (x : IV) (cs : List Value) : Prop :=
  x.cells.length = cs.length ∧ (∀ (q : Nat) (c : IV) (v : Value), x.cells[q]? = some c → cs[q]? = some v → Rel (fun b => b < W.heap.size) W c v) ∧ ∀ c ∈ x.cells, c.one = true
theorem Opens.cell {W : World} {x : IV} {v : Value} (h1 : x.cells = [x]) (h2 : x.one = true) (h : Rel (fun b => b < W.heap.size) W x v) : Opens W x [v] := by
  refine ⟨by rw [h1]; rfl, fun q c u hc hu => ?_, by rw [h1]; simpa using h2⟩
  rw [h1] at hc
  cases q with
  | zero => simp at hc hu; subst hc; subst hu; exact h
  | succ q => simp at hc

section
variable {H : Type} {enc : TypeId × Value → H} {P : Program} {W : World} {spare : Nat → Bool} {held : Bool}

theorem fields_open {ts : List TypeId} {n : Nat} {cs : List Value} {xs : List (DataW H × List MemPlace)}
    (ih : ∀ (t : TypeId) (cs : List Value) (y : DataW H × List MemPlace), t ∈ ts → DataW.trod enc P W 0 spare held n t cs = some y → ∃ x, Shp P n t x ∧ Opens W x cs ∧ ivBulk x ≤ dBulk y.1) :
    ∀ (l : List Field) (o i0 : Nat), (∀ (j : Nat) (f : Field), l[j]? = some f → DataW.trod enc P W 0 spare held n f.type ((cs.drop f.offset).take (P.cellsOf f.type)) = xs[i0 + j]?) → fieldsOk P ts o l cs.length = true → i0 + l.length = xs.length →
      ∃ ys, ShpF (Shp P n) l ys ∧ o + (flat ys).length = cs.length ∧ (∀ (q : Nat) (c : IV) (v : Value), (flat ys)[q]? = some c → cs[o + q]? = some v → Rel (fun b => b < W.heap.size) W c v) ∧ (∀ c ∈ flat ys, c.one = true) ∧ ivBulks ys ≤ dBulkAll ((xs.drop i0).map (·.1))
  | [], o, i0, h, hf, hl => by
    simp [fieldsOk] at hf
    exact ⟨[], trivial, by simp [flat, hf], fun q c v hc => by simp [flat] at hc, fun c hc => by simp [flat] at hc, by simp [ivBulks]⟩
  | f :: r, o, i0, h, hf, hl => by
    simp only [fieldsOk, Bool.and_eq_true, decide_eq_true_eq, List.contains_iff_mem] at hf
    obtain ⟨⟨ho, hm⟩, hr⟩ := hf
    subst ho
    simp only [List.length_cons] at hl
    have h0 := h 0 f rfl
    have hx : xs[i0 + 0]? = some (xs[i0]'(by omega)) := by simp
    rw [hx] at h0
    obtain ⟨y, s1, s2, s3⟩ := ih f.type _ _ hm h0
    obtain ⟨ys, r1, r2, r3, r4, r5⟩ := fields_open ih r (f.offset + P.cellsOf f.type) (i0 + 1) (fun j g hg => by rw [show i0 + 1 + j = i0 + (j + 1) by omega]; exact h (j + 1) g (by simpa using hg)) hr (by omega)
    have hyl : y.cells.length = P.cellsOf f.type := by rw [s2.1]; simp; omega
    have hfl : flat (y :: ys) = y.cells ++ flat ys := by simp [flat]
    refine ⟨y :: ys, ⟨s1, r1⟩, by rw [hfl]; simp [hyl]; omega, ?_, ?_, ?_⟩
    · intro q c v hc hv
      rw [hfl] at hc
      by_cases hq : q < y.cells.length
      · rw [List.getElem?_append_left hq] at hc
        refine s2.2.1 q c v hc ?_
        rw [List.getElem?_take, if_pos (by omega), List.getElem?_drop]; exact hv
      · rw [List.getElem?_append_right (by omega)] at hc
        refine r3 _ c v hc ?_
        rw [← hv]; congr 1; omega
    · intro c hc
      rw [hfl] at hc
      rcases List.mem_append.1 hc with hc | hc
      · exact s2.2.2 c hc
      · exact r4 c hc
    · have hd : xs.drop i0 = xs[i0]'(by omega) :: xs.drop (i0 + 1) := List.drop_eq_getElem_cons (by omega)
      rw [hd]
      simp only [List.map_cons, ivBulks, dBulkAll]
      omega

theorem elems_open {n k : Nat} {e : TypeId} {a : Addr} {elems : List (DataW H × List MemPlace)}
    (ih : ∀ (cs : List Value) (y : DataW H × List MemPlace), DataW.trod enc P W 0 spare held n e cs = some y → ∃ x, Shp P n e x ∧ Opens W x cs ∧ ivBulk x ≤ dBulk y.1) :
    ∀ (m : Nat), m ≤ elems.length → (∀ i, i < m → (W.cells? 0 (a.add (i * k)) k).bind (DataW.trod enc P W 0 spare held n e) = elems[i]?) →
      ∃ xs : List IV, xs.length = m ∧ (∀ (i : Nat) (x : IV), xs[i]? = some x → Shp P n e x ∧ ∃ ci, W.cells? 0 (a.add (i * k)) k = some ci ∧ Opens W x ci) ∧ ivBulks xs ≤ dBulkAll ((elems.take m).map (·.1))
  | 0, _, _ => ⟨[], rfl, fun i x h => by simp at h, by simp [ivBulks]⟩
  | m + 1, hm, h => by
    obtain ⟨xs, h1, h2, h3⟩ := elems_open ih m (by omega) (fun i hi => h i (by omega))
    have hi := h m (by omega)
    have hx : elems[m]? = some (elems[m]'(by omega)) := by simp
    rw [hx, Option.bind_eq_some_iff] at hi
    obtain ⟨ci, c1, c2⟩ := hi
    obtain ⟨x, s1, s2, s3⟩ := ih ci _ c2
    refine ⟨xs ++ [x], by simp [h1], ?_, ?_⟩
    · intro i y hy
      by_cases hlt : i < xs.length
      · rw [List.getElem?_append_left hlt] at hy; exact h2 i y hy
      · have : i = m := by
          have := (List.getElem?_eq_some_iff.1 hy).1
          simp at this; omega
        subst this
        rw [List.getElem?_append_right (by omega)] at hy
        simp [h1] at hy; subst hy
        exact ⟨s1, ci, c1, s2⟩
    · have ht : elems.take (m + 1) = elems.take m ++ [elems[m]'(by omega)] := by rw [List.take_add_one, hx]; rfl
      have ap : ∀ (a : List (DataW H)) (d : DataW H), dBulkAll (a ++ [d]) = dBulkAll a + dBulk d := by
        intro a d
        induction a with
        | nil => simp [dBulkAll]
        | cons x a ih => simp [dBulkAll, ih]; omega
      rw [ivBulks_append, ht, List.map_append, List.map_cons, List.map_nil, ap]
      simp only [ivBulks]
      omega

/-- A value of a plain type that came in. -/
theorem open_any {ts : List TypeId} (hts : plainSet P ts = true) : ∀ (fuel : Nat) (t : TypeId) (cs : List Value) (y : DataW H × List MemPlace), t ∈ ts → DataW.trod enc P W 0 spare held fuel t cs = some y →
    ∃ x, Shp P fuel t x ∧ Opens W x cs ∧ ivBulk x ≤ dBulk y.1
  | 0, t, cs, y, ht, h => by simp [DataW.trod] at h
  | fuel + 1, t, cs, y, ht, h => by
    have hp := List.all_eq_true.1 hts t ht
    unfold plainT at hp
    split at hp
    · rename_i hu
      obtain ⟨b, rfl, rfl⟩ := DataW.trod_bool hu h
      exact ⟨.bool b, by simp [Shp, hu], .cell rfl rfl (.bool b), by simp [ivBulk, dBulk]⟩
    · rename_i k hu
      obtain ⟨n, rfl, rfl, hw⟩ := DataW.trod_int hu h
      exact ⟨.int k n, by simp [Shp, hu, hw], .cell rfl rfl (.int k n), by simp [ivBulk, dBulk]⟩
    · rename_i hu
      obtain ⟨s, rfl, rfl, hw⟩ := DataW.trod_string hu h
      exact ⟨.str s, by simp only [Shp, hu]; exact ⟨s, rfl, hw⟩, .cell rfl rfl (.str s), by simp [ivBulk, dBulk]⟩
    · rename_i e hu
      simp only [Bool.and_eq_true, decide_eq_true_eq, List.contains_iff_mem] at hp
      obtain ⟨he, hk⟩ := hp
      rcases DataW.trod_slice hu h with ⟨rfl, rfl⟩ | ⟨a, len, cap, elems, rest, n, hfu, rfl, rfl, _, hl, hc, hlen, hel, _⟩
      · exact ⟨.slice [], by simp only [Shp, hu]; exact ⟨[], rfl, by simp⟩, .cell rfl rfl (.empty none 0), by simp [ivBulk, ivBulks, dBulk]⟩
      · injection hfu with hfu; subst hfu
        obtain ⟨xs, x1, x2, x3⟩ := elems_open (fun cs y hy => open_any hts fuel e cs y he hy) len (by omega) hel
        have hsz : ∀ x ∈ xs, x.cells.length = P.cellsOf e := by
          intro x hx
          obtain ⟨i, hi⟩ := List.getElem?_of_mem hx
          obtain ⟨_, ci, c1, c2⟩ := x2 i x hi
          rw [c2.1]; exact (World.cells?_some c1).2.1
        refine ⟨.slice xs, by simp only [Shp, hu]; exact ⟨xs, rfl, fun x hx => by obtain ⟨i, hi⟩ := List.getElem?_of_mem hx; exact (x2 i x hi).1⟩, .cell rfl rfl ?_, ?_⟩
        · rcases Nat.eq_zero_or_pos len with h0 | hpos
          · have : xs = [] := List.eq_nil_of_length_eq_zero (x1.trans h0)
            rw [this, h0]; exact .empty _ _
          obtain ⟨b, off, spot⟩ := a
          have hx0 : xs[0]? = some (xs[0]'(by omega)) := by simp
          obtain ⟨_, c0, d1, d2⟩ := x2 0 _ hx0
          have hb := World.cells?_block d1 hk
          obtain ⟨_, e1, e2⟩ := World.cells?_some d1
          have e3 := e2 0 hk
          have hc0 : c0[0]? = some (c0[0]'(by omega)) := by simp
          rw [hc0] at e3
          have hspot : spot = none := by simpa [Addr.add] using World.cell?_spot e3
          subst hspot
          have hb' : b < W.heap.size := by simpa [Addr.add] using hb
          have key : ∀ (q : Nat) (c : IV), (flat xs)[q]? = some c → ∃ v, W.cell? ⟨b, off + q, none⟩ = some v ∧ Rel (fun b => b < W.heap.size) W c v ∧ c.one = true := by
            intro q c hq
            have hql : q < xs.length * P.cellsOf e := by
              rw [← flat_len hsz]; exact (List.getElem?_eq_some_iff.1 hq).1
            have hdiv : q / P.cellsOf e < xs.length := Nat.div_lt_of_lt_mul (by rw [Nat.mul_comm]; exact hql)
            have hmod := Nat.mod_lt q hk
            have hxi : xs[q / P.cellsOf e]? = some (xs[q / P.cellsOf e]) := by simp [hdiv]
            obtain ⟨_, ci, f1, f2⟩ := x2 _ _ hxi
            obtain ⟨_, g1, g2⟩ := World.cells?_some f1
            have hqe : q / P.cellsOf e * P.cellsOf e + q % P.cellsOf e = q := by rw [Nat.mul_comm]; exact Nat.div_add_mod q _
            have hcell := flat_at hsz hxi (q % P.cellsOf e) hmod
            rw [hqe, hq] at hcell
            have hv : ci[q % P.cellsOf e]? = some (ci[q % P.cellsOf e]'(by omega)) := by simp [g1, hmod]
            have g3 := g2 _ hmod
            rw [hv, Addr.add_add, hqe] at g3
            refine ⟨_, ?_, f2.2.1 _ c _ hcell.symm hv, f2.2.2 c (List.mem_of_getElem? hcell.symm)⟩
            by_cases hq0 : q = 0
            · subst hq0; simpa [Addr.add] using g3
            · simpa [Addr.add, hq0] using g3
          rw [← x1]
          refine Rel.slice xs b off cap (P.cellsOf e) (fun q => (W.cell? ⟨b, off + q, none⟩).getD undef) (by omega) hsz hb' (fun q c hq => ?_) (fun q c hq => ?_) (fun q c hq => ?_)
          · obtain ⟨v, k1, _⟩ := key q c hq; rw [k1]; rfl
          · obtain ⟨v, _, _, k3⟩ := key q c hq; exact k3
          · obtain ⟨v, k1, k2, _⟩ := key q c hq; rw [k1]; exact k2
        · rw [List.take_of_length_le (by omega)] at x3
          simp only [ivBulk, dBulk]
          omega
    · rename_i fs hu
      obtain ⟨xs, n, hfu, rfl, hl, hxl, hf⟩ := DataW.trod_struct hu h
      injection hfu with hfu; subst hfu
      rw [← hl] at hp
      obtain ⟨ys, r1, r2, r3, r4, r5⟩ := fields_open (xs := xs) (fun t cs y ht hy => open_any hts fuel t cs y ht hy) fs.toList 0 0 (fun j f hj => by rw [Nat.zero_add]; exact hf j f (by simpa using hj)) hp (by simp [hxl])
      refine ⟨.agg (flat ys), by simp only [Shp, hu]; exact ⟨ys, rfl, r1⟩, ⟨by simp [IV.cells]; omega, fun q c v hc hv => r3 q c v hc (by rw [Nat.zero_add]; exact hv), r4⟩, ?_⟩
      have := ivBulks_flat ys
      simp only [ivBulk, dBulk]
      simp at r5
      omega
    · cases hp

/-- An argument of a plain type. -/
theorem open_slc {ts : List TypeId} (hts : plainSet P ts = true) {t e : TypeId} {base : Nat} {v : Value} {d : DataW H} {ps : List MemPlace} (hu : P.underlying t = some (.slice e)) (ht : t ∈ ts) (hval : Go.Value.okWide P W .any base t v)
    (h : DataW.Trod enc P W 0 (fun _ => true) true t v d ps) : ∃ n x, Shp P n t x ∧ Rel (fun b => b < W.heap.size) W x v ∧ ivBulk x ≤ dBulk d ∧ ∀ p ∈ ps, p.block < W.heap.size := by
  obtain ⟨a, len, cap, rfl⟩ := Go.WideShapes.okWide_slice hu hval
  have hlt : ∀ x ∈ ps, x.block < W.heap.size := by obtain ⟨m, hm⟩ := h; exact DataW.trod_lt m _ _ _ hm
  obtain ⟨fuel, hf⟩ := h
  obtain ⟨x, h1, h2, h3⟩ := open_any hts fuel t _ _ ht hf
  refine ⟨fuel, x, h1, ?_, h3, hlt⟩
  cases fuel with
  | zero => exact h1.elim
  | succ n =>
    simp only [Shp, hu] at h1
    obtain ⟨xs, rfl, _⟩ := h1
    exact h2.2.1 0 _ _ rfl (by simp [Value.cells])
theorem open_rec {ts : List TypeId} (hts : plainSet P ts = true) {t : TypeId} {fs : Array Field} {base : Nat} {v : Value} {d : DataW H} {ps : List MemPlace} (hu : P.underlying t = some (.struct fs)) (ht : t ∈ ts) (hval : Go.Value.okWide P W .any base t v)
    (h : DataW.Trod enc P W 0 (fun _ => true) true t v d ps) : ∃ n x, Shp P n t x ∧ Rel (fun b => b < W.heap.size) W x v ∧ ivBulk x ≤ dBulk d ∧ ∀ p ∈ ps, p.block < W.heap.size := by
  have hlt : ∀ x ∈ ps, x.block < W.heap.size := by obtain ⟨m, hm⟩ := h; exact DataW.trod_lt m _ _ _ hm
  simp only [Value.okWide, hu] at hval
  obtain ⟨cs, rfl, _, _⟩ := hval
  obtain ⟨fuel, hf⟩ := h
  obtain ⟨x, h1, h2, h3⟩ := open_any hts fuel t _ _ ht hf
  refine ⟨fuel, x, h1, ?_, h3, hlt⟩
  cases fuel with
  | zero => exact h1.elim
  | succ n =>
    simp only [Shp, hu] at h1
    obtain ⟨ys, rfl, _⟩ := h1
    refine .agg _ _ ?_ h2.2.2 fun q c v hc hv => h2.2.1 q c v hc (by simpa [Value.cells] using hv)
    have := h2.1
    simp [IV.cells, Value.cells] at this
    omega
end
/-! ### what they are -/
theorem shp_bytes {P : Program} {n : Nat} {t e : TypeId} {x : IV} (hu : P.underlying t = some (.slice e)) (he : P.underlying e = some (.int .u8)) (h : Shp P n t x) : ∃ bs : List UInt8, x = .slice (bs.map encB) ∧ bs.length + 1 ≤ ivBulk x := by
  cases n with
  | zero => exact h.elim
  | succ n =>
    simp only [Shp, hu] at h
    obtain ⟨xs, rfl, hx⟩ := h
    have key : ∀ (xs : List IV), (∀ y ∈ xs, Shp P n e y) → ∃ bs : List UInt8, xs = bs.map encB := by
      intro xs
      induction xs with
      | nil => exact fun _ => ⟨[], rfl⟩
      | cons y ys ih =>
        intro h
        obtain ⟨bs, rfl⟩ := ih fun z hz => h z (by simp [hz])
        have hy := h y (by simp)
        cases n with
        | zero => exact hy.elim
        | succ n =>
          simp only [Shp, he] at hy
          obtain ⟨k, rfl, hw⟩ := hy
          have hr : 0 ≤ k ∧ k ≤ 255 := by simpa [Lit.wf, IntKind.min, IntKind.max, IntKind.signed, IntKind.bits] using hw
          refine ⟨UInt8.ofNat k.toNat :: bs, ?_⟩
          rw [List.map_cons, encB_ofNat' k.toNat (by omega)]
          congr 2; omega
    obtain ⟨bs, rfl⟩ := key xs hx
    have := ivBulks_len (bs.map encB)
    exact ⟨bs, rfl, by simp only [ivBulk]; simp at this; omega⟩
theorem shp_int {P : Program} {n : Nat} {t : TypeId} {k : IntKind} {x : IV} (hu : P.underlying t = some (.int k)) (h : Shp P n t x) : ∃ m, x = .int k m ∧ (Lit.int k m).wf = true := by
  cases n with
  | zero => exact h.elim
  | succ n => simp only [Shp, hu] at h; exact h
theorem shp_slice {P : Program} {n : Nat} {t e : TypeId} {x : IV} (hu : P.underlying t = some (.slice e)) (h : Shp P n t x) : ∃ m xs, x = .slice xs ∧ ∀ y ∈ xs, Shp P m e y := by
  cases n with
  | zero => exact h.elim
  | succ n => simp only [Shp, hu] at h; obtain ⟨xs, h1, h2⟩ := h; exact ⟨n, xs, h1, h2⟩
theorem shp_rec {P : Program} {n : Nat} {t : TypeId} {fs : Array Field} {x : IV} (hu : P.underlying t = some (.struct fs)) (h : Shp P n t x) : ∃ m ys, x = .agg (flat ys) ∧ ShpF (Shp P m) fs.toList ys := by
  cases n with
  | zero => exact h.elim
  | succ n => simp only [Shp, hu] at h; obtain ⟨xs, h1, h2⟩ := h; exact ⟨n, xs, h1, h2⟩
end Go.Proofs.Ytfmeedphpcjkmaa.Ag
