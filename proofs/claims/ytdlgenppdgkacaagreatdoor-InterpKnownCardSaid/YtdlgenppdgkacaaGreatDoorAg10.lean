/- Structs and slices laid out of parts; slices cut. -/
import Derived.Test.YtdlgenppdgkacaaGreatDoorAg9
set_option linter.unusedVariables false
set_option linter.unusedSimpArgs false
namespace Go.Proofs.YtdlgenppdgkacaaGreatDoor.Ag
open Go.RowKit (Below)

theorem set_cells (off : Nat) (l : List Value) (cells : Array Value) (h : off + l.length ≤ cells.size) :
    ((l.zipIdx).foldl (fun cs (x : Value × Nat) => cs.setIfInBounds (off + x.2) x.1) cells) = (splice cells.toList off l).toArray := by
  obtain ⟨h1, h2⟩ := Go.Great.foldl_set off l 0 cells
  apply Array.ext_getElem?
  intro q
  rw [h2 q]
  have := splice_get (l := cells.toList) (m := l) (off := off) (by simpa using h) q
  simp only [List.getElem?_toArray, this, Nat.add_zero]
  by_cases hq : off ≤ q ∧ q < off + l.length
  · rw [if_pos ⟨hq.1, hq.2, by omega⟩, if_pos hq]
  · rw [if_neg (by omega), if_neg hq]
    simp

/-- Parts put into cells. -/
def fillTV (σ : Slots) (ρ : List (Nat × TV)) : List TV → List (Nat × Nat × AOpd) → Option (List TV)
  | cells, [] => some cells
  | cells, (off, sz, x) :: r => match ev ρ x with
    | some v => match cellsOf σ v with
      | some cs => if cs.length = sz ∧ off + sz ≤ cells.length then fillTV σ ρ (splice cells off cs) r else none
      | none => none
    | none => none

/-- How the parts of the model's operation stand to ours. -/
def PartsTr (places : Nat → Option (Nat × Nat)) : List (Nat × Operand) → List (Nat × Nat × AOpd) → Prop
  | [], [] => True
  | (i, x) :: l, (off, sz, y) :: r => places i = some (off, sz) ∧ trOpd x = some y ∧ PartsTr places l r
  | _, _ => False

theorem fill_rel {N : Nat} {K : Kr} {s : St} {a : Act} {w : World} (hs : SRel N K s a w) {places : Nat → Option (Nat × Nat)} : ∀ (l : List (Nat × Operand)) (r : List (Nat × Nat × AOpd)) (cs cs' : List TV) (vs : Array Value),
    PartsTr places l r → vs.size = cs.length → (∀ (q : Nat) (c : TV) (v : Value), cs[q]? = some c → vs[q]? = some v → TRel K w c v ∧ v.oneCell' = true) → fillTV s.σ s.ρ cs r = some cs' →
    ∃ vs', Instr.fill places vs (l.map fun x => (x.1, a.eval x.2)) = some vs' ∧ vs'.size = cs'.length ∧ ∀ (q : Nat) (c : TV) (v : Value), cs'[q]? = some c → vs'[q]? = some v → TRel K w c v ∧ v.oneCell' = true
  | [], [], cs, cs', vs, _, hn, hr, h => by
    simp [fillTV] at h; subst h
    exact ⟨vs, rfl, hn, hr⟩
  | (i, x) :: l, (off, sz, y) :: r, cs, cs', vs, ht, hn, hr, h => by
    obtain ⟨h1, h2, h3⟩ := ht
    simp only [fillTV] at h
    split at h
    · rename_i v hv
      split at h
      · rename_i us hus
        split at h
        · rename_i hl
          obtain ⟨hl1, hl2⟩ := hl
          obtain ⟨c1, c2⟩ := cellsOf_rel hs.slots (ev_rel hs h2 hv) hus
          have hle : off + (a.eval x).cells.toList.length ≤ vs.size := by simp; omega
          have e : ((a.eval x).cells.zipIdx.foldl (fun cs (x : Value × Nat) => cs.setIfInBounds (off + x.2) x.1) vs) = (splice vs.toList off (a.eval x).cells.toList).toArray := by
            rw [← set_cells off (a.eval x).cells.toList vs hle, ← Array.foldl_toList, Array.toList_zipIdx]
          obtain ⟨vs', f1, f2, f3⟩ := fill_rel hs l r (splice cs off us) cs' (splice vs.toList off (a.eval x).cells.toList).toArray h3 (by simp [splice]; omega) (by
            intro q c u hc hu
            have hu' : (splice vs.toList off (a.eval x).cells.toList)[q]? = some u := by simpa using hu
            rw [splice_get (by simpa using hle)] at hu'
            rw [splice_get (by omega)] at hc
            have e1 : (a.eval x).cells.toList.length = us.length := by simpa using c1
            rw [e1] at hu'
            split at hc
            · rename_i hq
              rw [if_pos hq] at hu'
              exact c2 (q - off) c u hc (by simpa using hu')
            · rename_i hq
              rw [if_neg hq] at hu'
              exact hr q c u hc (by simpa using hu')) h
          refine ⟨vs', ?_, f2, f3⟩
          simp only [List.map_cons, Instr.fill, h1]
          rw [if_neg (by simp; omega), e]
          exact f1
        · cases h
      · cases h
    · cases h
  | [], _ :: _, cs, cs', vs, ht, hn, hr, h => ht.elim
  | _ :: _, [], cs, cs', vs, ht, hn, hr, h => ht.elim

theorem run_mapM_list {P : Program} {α β : Type} (f : α → Sem β) (gf : α → β) (w : World) : ∀ (l : List α), (∀ x ∈ l, (f x).run P w = .ok (gf x) w) → (l.mapM f).run P w = .ok (l.map gf) w
  | [], _ => by simp
  | x :: l, h => by
    simp only [List.mapM_cons, Sem.run_bind, h x (by simp), Result.andThen_ok, run_mapM_list f gf w l (fun y hy => h y (by simp [hy])), Sem.run_pure, List.map_cons]

theorem run_mapM_array {P : Program} {α β : Type} (f : α → Sem β) (gf : α → β) (w : World) (l : Array α) (h : ∀ x ∈ l, (f x).run P w = .ok (gf x) w) : (l.mapM f).run P w = .ok (l.map gf) w := by
  rw [Array.mapM_eq_mapM_toList, Sem.run_map, run_mapM_list f gf w l.toList (fun x hx => h x (by simpa using hx))]
  simp only [Result.andThen_ok]
  congr 1
  apply Array.ext'
  simp

def szOf (P : Program) (t : TypeId) : Nat := ((P.info? t).map (·.size)).getD 0
theorem run_szOf {P : Program} {t : TypeId} (h : (P.info? t).isSome = true) (w : World) : (sizeOf t).run P w = .ok (szOf P t) w := by
  cases hi : P.info? t with
  | none => simp [hi] at h
  | some i => simp [sizeOf, typeInfo, hi, szOf]

section
variable {P : Program} {N : Nat} {s : St} {d : Option Tmp} {ty : TypeId} {ps : String} {af : Array Edge} {g : Option (Nat × Bool)}

/-- The places of a struct's fields, of an array's elements. -/
def placesOf (P : Program) (t : TypeId) : Option (Nat → Option (Nat × Nat)) :=
  match P.underlying t with
  | some (.struct fs) => if fs.all (fun f => (P.info? f.type).isSome) then some fun i => (fs[i]?).map fun f => (f.offset, szOf P f.type) else none
  | some (.array _ e) => if (P.info? e).isSome then some fun i => some (i * szOf P e, szOf P e) else none
  | _ => none

theorem ok_build {t : TypeId} {parts : Array (Nat × Operand)} {pl : Nat → Option (Nat × Nat)} {zero : List IV} {r : List (Nat × Nat × AOpd)} {cs : List TV} (hp : placesOf P t = some pl) (hz : zeroIs P t zero)
    (ht : PartsTr pl parts.toList r) (h : fillTV s.σ s.ρ (zero.map .iv) r = some cs) : OpOk P N ⟨d, .build t parts, ty, ps, af, g⟩ s (mkAgg cs) s.σ := by
  refine .pure fun K a w hs => ?_
  obtain ⟨i, z, hi, hzz, hc⟩ := hz
  obtain ⟨c1, c2, c3⟩ := ivCells_rel hc K.I w
  obtain ⟨vs', f1, f2, f3⟩ := fill_rel hs parts.toList r (zero.map .iv) cs z.cells ht (by simpa using c1) (by
    intro q c u hq hu
    simp only [List.getElem?_map, Option.map_eq_some_iff] at hq
    obtain ⟨y, hy, rfl⟩ := hq
    exact ⟨.iv _ _ (c3 q y u hy hu).1, (c3 q y u hy hu).2⟩) h
  refine ⟨.agg vs', ?_, mkAgg_rel f2 f3⟩
  have hm : (parts.map fun (x : Nat × Operand) => (x.1, a.eval x.2)).toList = parts.toList.map fun x => (x.1, a.eval x.2) := by simp
  unfold placesOf at hp
  split at hp
  · rename_i fs hu
    split at hp
    · rename_i hall
      injection hp with hp; subst hp
      have hmap : (fs.mapM fun (f : Field) => do pure (f.offset, ← sizeOf f.type) : Sem (Array (Nat × Nat))).run P w = .ok (fs.map fun (f : Field) => (f.offset, szOf P f.type)) w := by
        refine run_mapM_array _ _ w fs (fun f hf => ?_)
        have := (Array.all_eq_true_iff_forall_mem.1 hall) f hf
        simp [run_szOf this w]
      have hpl : (fun (i : Nat) => (fs.map fun (f : Field) => (f.offset, szOf P f.type))[i]?) = fun (i : Nat) => (fs[i]?).map fun (f : Field) => (f.offset, szOf P f.type) := by
        funext i; simp
      simp only [execOp, Instr.build, zeroValue, typeInfo, Sem.run_bind, run_program, Result.andThen_ok, hi, hzz, Sem.run_pure, run_underlying' hu, hmap, hm]
      rw [hpl, f1]
      simp
    · cases hp
  · rename_i n e hu
    split at hp
    · rename_i hall
      injection hp with hp; subst hp
      simp only [execOp, Instr.build, zeroValue, typeInfo, Sem.run_bind, run_program, Result.andThen_ok, hi, hzz, Sem.run_pure, run_underlying' hu, run_szOf hall w, hm]
      rw [f1]
      simp
    · cases hp
  · cases hp

/-! ### slice literals: 'n' whole parts in their order -/
def evAll (ρ : List (Nat × TV)) : List AOpd → Option (List TV)
  | [] => some []
  | x :: l => match ev ρ x with
    | some v => match evAll ρ l with
      | some vs => some (v :: vs)
      | none => none
    | none => none

theorem evAll_rel {N : Nat} {K : Kr} {s : St} {a : Act} {w : World} (hs : SRel N K s a w) : ∀ (l : List Operand) (r : List AOpd) (vs : List TV), l.mapM trOpd = some r → evAll s.ρ r = some vs →
    vs.length = l.length ∧ ∀ (q : Nat) (c : TV) (v : Value), vs[q]? = some c → (l.map a.eval)[q]? = some v → TRel K w c v
  | [], r, vs, ht, h => by
    simp at ht; subst ht
    simp [evAll] at h; subst h
    exact ⟨rfl, fun q c v hc => by simp at hc⟩
  | x :: l, r, vs, ht, h => by
    simp only [List.mapM_cons, Option.pure_def, Option.bind_eq_bind, Option.bind_eq_some_iff, Option.some.injEq] at ht
    obtain ⟨y, hy, r', hr', rfl⟩ := ht
    simp only [evAll] at h
    split at h
    · rename_i v hv
      split at h
      · rename_i us hus
        injection h with h; subst h
        obtain ⟨h1, h2⟩ := evAll_rel hs l r' us hr' hus
        refine ⟨by simp [h1], fun q c u hc hu => ?_⟩
        cases q with
        | zero => simp at hc hu; subst hc; subst hu; exact ev_rel hs hy hv
        | succ q => simp at hc hu; exact h2 q c u hc (by simpa using hu)
      · cases h
    · cases h

/-- All values of one size, none of them a tuple. -/
def oneSize (sz : Nat) : List IV → Bool
  | [] => true
  | x :: xs => (match x with | .tup _ => false | _ => true) && x.cells.length == sz && oneSize sz xs
theorem oneSize_mem {sz : Nat} : ∀ {xs : List IV}, oneSize sz xs = true → ∀ x ∈ xs, x.cells.length = sz ∧ ∀ ys, x ≠ .tup ys
  | [], _, x, hx => by simp at hx
  | y :: ys, h, x, hx => by
    simp only [oneSize, Bool.and_eq_true, beq_iff_eq] at h
    obtain ⟨⟨h1, h2⟩, h3⟩ := h
    rcases List.mem_cons.1 hx with rfl | hx
    · refine ⟨h2, fun zs e => ?_⟩
      subst e; simp at h1
    · exact oneSize_mem h3 x hx

theorem rel_cells {I : Nat → Prop} {w : World} {x : IV} {v : Value} (h : Rel I w x v) (hne : ∀ ys, x ≠ .tup ys) :
    v.cells.size = x.cells.length ∧ (∀ c ∈ x.cells, c.one = true) ∧ ∀ (q : Nat) (c : IV) (u : Value), x.cells[q]? = some c → v.cells[q]? = some u → Rel I w c u := by
  cases h with
  | agg cs vs hn ho hr => exact ⟨hn, ho, hr⟩
  | tup xs vs hn hr => exact absurd rfl (hne xs)
  | _ =>
    refine ⟨rfl, fun c hc => by simp [IV.cells] at hc; subst hc; rfl, fun q c u hq hu => ?_⟩
    cases q with
    | zero => simp [IV.cells, Value.cells] at hq hu; subst hq; subst hu; first | assumption | constructor <;> assumption
    | succ q => simp [IV.cells] at hq

/-- The cells of values side by side. -/
theorem flat_rel {I : Nat → Prop} {w : World} {sz : Nat} : ∀ {xs : List IV} {vs : List Value}, xs.length = vs.length → (∀ x ∈ xs, x.cells.length = sz ∧ ∀ ys, x ≠ .tup ys) →
    (∀ (q : Nat) (c : IV) (v : Value), xs[q]? = some c → vs[q]? = some v → Rel I w c v) →
    (vs.flatMap fun v => v.cells.toList).length = (flat xs).length ∧ (∀ v ∈ vs, v.cells.size = sz) ∧
      ∀ (q : Nat) (c : IV) (u : Value), (flat xs)[q]? = some c → (vs.flatMap fun v => v.cells.toList)[q]? = some u → Rel I w c u ∧ c.one = true
  | [], [], _, _, _ => ⟨rfl, fun v hv => by simp at hv, fun q c u hc => by simp [flat] at hc⟩
  | x :: xs, v :: vs, hl, hs, hr => by
    obtain ⟨h1, h2, h3⟩ := flat_rel (xs := xs) (vs := vs) (by simpa using hl) (fun y hy => hs y (by simp [hy])) (fun q c u hc hu => hr (q + 1) c u (by simpa using hc) (by simpa using hu))
    obtain ⟨c1, c2, c3⟩ := rel_cells (hr 0 x v rfl rfl) (hs x (by simp)).2
    have e1 : v.cells.toList.length = x.cells.length := by simpa using c1
    refine ⟨?_, ?_, ?_⟩
    · simp only [flat, List.flatMap_cons, List.length_append] at h1 ⊢; omega
    · intro u hu
      rcases List.mem_cons.1 hu with rfl | hu
      · rw [c1]; exact (hs x (by simp)).1
      · exact h2 u hu
    · intro q c u hc hu
      simp only [flat, List.flatMap_cons] at hc
      simp only [List.flatMap_cons] at hu
      by_cases hq : q < x.cells.length
      · rw [List.getElem?_append_left hq] at hc
        rw [List.getElem?_append_left (by omega)] at hu
        exact ⟨c3 q c u hc (by simpa using hu), c2 c (List.mem_of_getElem? hc)⟩
      · rw [List.getElem?_append_right (by omega)] at hc
        rw [List.getElem?_append_right (by omega), e1] at hu
        exact h3 _ c u hc hu
  | [], _ :: _, hl, _, _ => by simp at hl
  | _ :: _, [], hl, _, _ => by simp at hl

def partsInOrder (ops : List Operand) : List (Nat × Operand) := (ops.zipIdx 0).map fun x => (x.2, x.1)

theorem ok_bslice {t e : TypeId} {i : TypeInfo} {z : Value} {ops : List Operand} {r : List AOpd} {vs : List TV} {xs : List IV} {σ' : Slots} (ht : P.underlying t = some (.slice e)) (hi : P.info? e = some i) (hz : i.zero = some z)
    (h0 : 0 < i.size) (hsm : ops.length * i.size ≤ 2 ^ 24) (hne : ops ≠ []) (tr : ops.mapM trOpd = some r) (he : evAll s.ρ r = some vs) (hsh : shutAll vs s.σ = some (xs, σ')) (hsz : oneSize i.size xs = true) :
    OpOk P N ⟨d, .buildSlice t ops.length (partsInOrder ops).toArray, ty, ps, af, g⟩ s (.iv (.slice xs)) σ' := by
  refine .of fun K a w hs => ?_
  obtain ⟨e1, e2⟩ := evAll_rel hs ops r vs tr he
  obtain ⟨K1, h1, h2, h3, h4⟩ := shutAll_ok vs (vs := (ops.map a.eval).toArray) hs.slots (by simpa using e1.symm) (fun q c v hc hv => e2 q c v hc (by simpa using hv)) hsh
  have hlen : xs.length = (ops.map a.eval).length := by rw [h3, e1]; simp
  obtain ⟨f1, f2, f3⟩ := flat_rel (sz := i.size) hlen (oneSize_mem hsz) (fun q c v hc hv => h4 q c v hc (by simpa using hv))
  have hfill := Go.Great.fill_whole h0 (ops.map a.eval) ((Array.range (ops.length * i.size)).map (z.cells[· % z.cells.size]!)) f2 (by simp)
  have hpos : 0 < ops.length * i.size := Nat.mul_pos (by cases ops; exact absurd rfl hne; simp) h0
  have hparts : ((partsInOrder ops).toArray.map fun (x : Nat × Operand) => (x.1, a.eval x.2)).toList = ((ops.map a.eval).zipIdx 0).map fun x => (x.2, x.1) := by
    simp only [partsInOrder, List.map_toArray, List.map_map, List.zipIdx_map]
    rfl
  have hrun := run_buildSlice (P := P) w t e ops.length ((partsInOrder ops).toArray.map fun (x : Nat × Operand) => (x.1, a.eval x.2)) _ i z ht hi hz (by omega) (by omega) (by rw [hparts]; exact hfill)
  generalize hC : ((ops.map a.eval).flatMap fun v => v.cells.toList) = C at hrun f1 f3
  have gr := Grew.alloc w (.cells C.toArray e) none
  obtain ⟨g1, g2⟩ := h1.fix gr (fun b => b = w.heap.size) (fun b hb => by subst hb; simp)
  have hsz' : ∀ x ∈ xs, x.cells.length = i.size := fun x hx => (oneSize_mem hsz x hx).1
  have hol : ops.length = xs.length := by rw [h3, e1]
  refine ⟨_, _, .slice (some ⟨w.heap.size, 0, none⟩) ops.length ops.length, ?_, ?_, g1, h2.trans g2⟩
  · simp only [execOp, Sem.run_bind, hrun]; rfl
  · rw [hol]
    refine .iv _ _ (.slice xs w.heap.size 0 xs.length i.size (fun q => C.getD q undef) (Nat.le_refl _) hsz' (.inr rfl) ?_ ?_ ?_)
    · intro q c hq
      have hlt : q < C.length := by rw [f1]; exact (List.getElem?_eq_some_iff.1 hq).1
      rw [Nat.zero_add, World.cell?_alloc_new]
      simp [List.getD, hlt]
    · intro q c hq
      have hlt : q < C.length := by rw [f1]; exact (List.getElem?_eq_some_iff.1 hq).1
      exact (f3 q c C[q] hq (by simp [hlt])).2
    · intro q c hq
      have hlt : q < C.length := by rw [f1]; exact (List.getElem?_eq_some_iff.1 hq).1
      exact (f3 q c _ hq (by simp [List.getD, hlt])).1.stays g2.le.1

end
end Go.Proofs.YtdlgenppdgkacaaGreatDoor.Ag
