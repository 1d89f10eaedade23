/- Operands and operations, without memory. -/
import Derived.Test.YtdlgenppdgkacaaGreatDoorAg3
import Derived.Laws.BitsLemmas
set_option linter.unusedVariables false
set_option linter.unusedSimpArgs false
namespace Go.Proofs.YtdlgenppdgkacaaGreatDoor.Ag
open Go.RowKit (Below)

/-- An operand: a slot, or a value. -/
inductive AOpd where
  | t (n : Nat)
  | c (x : IV)
  deriving Inhabited

def ivC1 : Value → Option IV
  | .bool b => some (.bool b)
  | .int k n => some (.int k n)
  | .string s => some (.str s)
  | .slice none 0 0 => some .nil
  | .pointer none => some .nilp
  | .nilFunc => some .nilfn
  | .nilIface => some .niliface
  | .map none => some .nilmap
  | _ => none
def ivC : Value → Option IV
  | .agg cs => (cs.toList.mapM ivC1).map .agg
  | .iface t v => (ivC1 v).map (.iface t)
  | v => ivC1 v
def ivCells (v : Value) : Option (List IV) := v.cells.toList.mapM ivC1
def trOpd : Operand → Option AOpd
  | .tmp t => some (.t t)
  | .const v => (ivC v).map .c
  | .func f => some (.c (.fn (.func f) [] []))
  | .global _ => none

theorem ivC1_rel {v : Value} {x : IV} (h : ivC1 v = some x) (I : Nat → Prop) (w : World) : Rel I w x v ∧ x.one = true := by
  unfold ivC1 at h
  split at h <;> first | (injection h with h; subst h; first | exact ⟨.bool _, rfl⟩ | exact ⟨.int _ _, rfl⟩ | exact ⟨.str _, rfl⟩ | exact ⟨.nil, rfl⟩ | exact ⟨.nilp, rfl⟩ | exact ⟨.nilfn, rfl⟩ | exact ⟨.niliface, rfl⟩ | exact ⟨.nilmap, rfl⟩) | cases h

theorem mapM_ivC1 : ∀ {vs : List Value} {xs : List IV}, vs.mapM ivC1 = some xs →
    vs.length = xs.length ∧ (∀ (q : Nat) (c : IV) (v : Value), xs[q]? = some c → vs[q]? = some v → ivC1 v = some c)
  | [], xs, h => by
    simp at h; subst h; exact ⟨rfl, fun q c v hc => by simp at hc⟩
  | v :: vs, xs, h => by
    simp only [List.mapM_cons, Option.pure_def, Option.bind_eq_bind, Option.bind_eq_some_iff, Option.some.injEq] at h
    obtain ⟨y, hy, ys, hys, rfl⟩ := h
    obtain ⟨h1, h2⟩ := mapM_ivC1 hys
    refine ⟨by simp [h1], fun q c u hc hu => ?_⟩
    cases q with
    | zero => simp at hc hu; subst hc; subst hu; exact hy
    | succ q => simp at hc hu; exact h2 q c u hc hu

theorem ivCells_rel {v : Value} {xs : List IV} (h : ivCells v = some xs) (I : Nat → Prop) (w : World) :
    v.cells.size = xs.length ∧ (∀ c ∈ xs, c.one = true) ∧ (∀ (q : Nat) (c : IV) (u : Value), xs[q]? = some c → v.cells[q]? = some u → Rel I w c u ∧ u.oneCell' = true) := by
  obtain ⟨h1, h2⟩ := mapM_ivC1 h
  have key : ∀ (q : Nat) (c : IV) (u : Value), xs[q]? = some c → v.cells[q]? = some u → Rel I w c u ∧ c.one = true := by
    intro q c u hc hu
    have := h2 q c u hc (by simpa using hu)
    exact ivC1_rel this I w
  refine ⟨by simpa using h1, ?_, fun q c u hc hu => ?_⟩
  · intro c hc
    obtain ⟨q, hq⟩ := List.getElem?_of_mem hc
    have hlt : q < xs.length := (List.getElem?_eq_some_iff.1 hq).1
    have hv : v.cells[q]? = some (v.cells[q]'(by simp at h1; omega)) := by simp
    exact (key q c _ hq hv).2
  · obtain ⟨h3, h4⟩ := key q c u hc hu
    exact ⟨h3, (h3.oneCell h4).2⟩

theorem ivC_rel {v : Value} {x : IV} (h : ivC v = some x) (I : Nat → Prop) (w : World) : Rel I w x v := by
  unfold ivC at h
  split at h
  · rename_i cs
    simp only [Option.map_eq_some_iff] at h
    obtain ⟨xs, hxs, rfl⟩ := h
    obtain ⟨h1, h2⟩ := mapM_ivC1 hxs
    refine .agg xs cs (by simpa using h1) ?_ ?_
    · intro c hc
      obtain ⟨q, hq⟩ := List.getElem?_of_mem hc
      have hlt : q < xs.length := (List.getElem?_eq_some_iff.1 hq).1
      have hv : cs.toList[q]? = some (cs.toList[q]'(by omega)) := by simp
      exact (ivC1_rel (h2 q c _ hq hv) I w).2
    · intro q c v hc hv
      exact (ivC1_rel (h2 q c v hc (by simpa using hv)) I w).1
  · simp only [Option.map_eq_some_iff] at h
    obtain ⟨y, hy, rfl⟩ := h
    exact .iface _ _ _ (ivC1_rel hy I w).1
  · exact (ivC1_rel h I w).1

def ev (ρ : List (Nat × TV)) : AOpd → Option TV
  | .t n => lk ρ n
  | .c x => some (.iv x)

theorem ev_rel {N : Nat} {K : Kr} {s : St} {a : Act} {w : World} (h : SRel N K s a w) {x : Operand} {y : AOpd} (ht : trOpd x = some y) {v : TV} (he : ev s.ρ y = some v) :
    TRel K w v (a.eval x) := by
  cases x with
  | tmp t =>
    simp [trOpd] at ht; subst ht
    obtain ⟨u, hu, hr⟩ := h.tmps t v he
    simp [Act.eval, hu]
    exact hr
  | const c =>
    simp only [trOpd, Option.map_eq_some_iff] at ht
    obtain ⟨x, hx, rfl⟩ := ht
    simp [ev] at he; subst he
    exact .iv _ _ (ivC_rel hx _ _)
  | func f =>
    simp [trOpd] at ht; subst ht
    simp [ev] at he; subst he
    exact .iv _ _ (.fn _ [] [] #[] #[] rfl rfl (fun q c v hc => by simp at hc) (fun q c v hc => by simp at hc))
  | global g => simp [trOpd] at ht

/-! ### cells -/
def TV.cells? : TV → Option (List TV)
  | .agg cs => some cs
  | .iv (.agg cs) => some (cs.map .iv)
  | .iv (.tup _) => none
  | .dead => none
  | .ifb _ _ => none
  | .tup _ => none
  | x => some [x]

theorem TRel.cells {K : Kr} {w : World} {t : TV} {v : Value} (r : TRel K w t v) {cs : List TV} (h : t.cells? = some cs) (hl : ∀ k n, t ≠ .lst k n) (hm : ∀ k n, t ≠ .mp k n) (hi : ∀ k n, t ≠ .itr k n) :
    v.cells.size = cs.length ∧ ∀ (q : Nat) (c : TV) (u : Value), cs[q]? = some c → v.cells[q]? = some u → TRel K w c u ∧ u.oneCell' = true := by
  have one : ∀ (x : TV) (v : Value), TRel K w x v → v.oneCell' = true → v.cells.size = [x].length ∧ ∀ (q : Nat) (c : TV) (u : Value), [x][q]? = some c → v.cells[q]? = some u → TRel K w c u ∧ u.oneCell' = true := by
    intro x v hr ho
    have hc : v.cells = #[v] := by cases v <;> first | rfl | simp [Value.oneCell'] at ho
    rw [hc]
    refine ⟨rfl, fun q c u hq hu => ?_⟩
    cases q with
    | zero => simp at hq hu; subst hq; subst hu; exact ⟨hr, ho⟩
    | succ q => simp at hq
  cases r with
  | iv x v hr =>
    cases x with
    | agg xs =>
      simp [TV.cells?] at h; subst h
      cases hr with
      | agg _ vs hn ho hr =>
        refine ⟨by simpa [Value.cells] using hn, fun q c u hc hu => ?_⟩
        simp only [List.getElem?_map, Option.map_eq_some_iff] at hc
        obtain ⟨y, hy, rfl⟩ := hc
        have h1 := hr q y u hy hu
        exact ⟨.iv _ _ h1, (h1.oneCell (ho y (List.mem_of_getElem? hy))).2⟩
    | tup xs => simp [TV.cells?] at h
    | _ =>
      simp [TV.cells?] at h; subst h
      exact one _ _ (.iv _ _ hr) (hr.oneCell rfl).2
  | loc k n off b hn hA => simp [TV.cells?] at h; subst h; exact one _ _ (.loc k n off b hn hA) rfl
  | el k n sz i off b len cap hn hA => simp [TV.cells?] at h; subst h; exact one _ _ (.el k n sz i off b len cap hn hA) rfl
  | lst k n hn => exact absurd rfl (hl k n)
  | mp k n hn => exact absurd rfl (hm k n)
  | itr k n hn => exact absurd rfl (hi k n)
  | sl k n z i j full A len cap c hn hA hij hjc hcc hf => simp [TV.cells?] at h; subst h; exact one _ _ (.sl k n z i j full A len cap c hn hA hij hjc hcc hf) rfl
  | dead => simp [TV.cells?] at h
  | ifb c t v hr h2 => simp [TV.cells?] at h
  | agg cs' vs hn ho hr =>
    simp [TV.cells?] at h; subst h
    exact ⟨by simpa [Value.cells] using hn, fun q c u hc hu => ⟨hr q c u hc hu, ho u (Array.mem_of_getElem? hu)⟩⟩
  | tup xs vs hn hr => simp [TV.cells?] at h
  | fn f fs cs vf vc hf hc hrf hrc => simp [TV.cells?] at h; subst h; exact one _ _ (.fn f fs cs vf vc hf hc hrf hrc) rfl

/-- A list's thing is a slice, a map's a map, wherever the place still is that thing: known of the model's value by the place. -/
theorem lst_one {K : Kr} {σ : List (Nat × Nat × Item)} {w : World} (hs : SlotsRel K σ w) {k n e sz : Nat} {xs : List IV} (h : lk σ k = some (n, .list e sz xs)) :
    ∃ a cap, K.A k n = .slice a xs.length cap := by
  obtain ⟨_, cvs, ho, _⟩ := hs.rel k n _ h
  rcases ho.2 with ⟨h1, h2⟩ | ⟨g, cap, cur, h1, _⟩
  · exact ⟨none, 0, by rw [h1, h2]⟩
  · exact ⟨_, cap, h1⟩

/-- From slots' values to one value: what is not of memory alone makes a value without memory. -/
def ivsOf : List TV → Option (List IV)
  | [] => some []
  | .iv x :: l => (ivsOf l).map (x :: ·)
  | _ :: _ => none
def mkAgg (cs : List TV) : TV :=
  match ivsOf cs with
  | some xs => .iv (.agg xs)
  | none => .agg cs

theorem ivsOf_rel {K : Kr} {w : World} : ∀ {cs : List TV} {xs : List IV}, ivsOf cs = some xs → cs = xs.map .iv
  | [], xs, h => by simp [ivsOf] at h; subst h; rfl
  | c :: cs, xs, h => by
    cases c <;> simp [ivsOf] at h
    obtain ⟨ys, hy, rfl⟩ := h
    rw [ivsOf_rel (K := K) (w := w) hy]; rfl

theorem one_of_rel {I : Nat → Prop} {w : World} {x : IV} {v : Value} (r : Rel I w x v) (h : v.oneCell' = true) : x.one = true := by
  cases r <;> first | rfl | simp [Value.oneCell'] at h

theorem mkAgg_rel {K : Kr} {w : World} {cs : List TV} {vs : Array Value} (hn : vs.size = cs.length)
    (hr : ∀ (q : Nat) (c : TV) (v : Value), cs[q]? = some c → vs[q]? = some v → TRel K w c v ∧ v.oneCell' = true) : TRel K w (mkAgg cs) (.agg vs) := by
  unfold mkAgg
  split
  · rename_i xs h
    have e := ivsOf_rel (K := K) (w := w) h
    subst e
    have key : ∀ (q : Nat) (c : IV) (v : Value), xs[q]? = some c → vs[q]? = some v → Rel K.I w c v ∧ v.oneCell' = true := by
      intro q c v hc hv
      obtain ⟨h1, h2⟩ := hr q (.iv c) v (by simp [hc]) hv
      cases h1 with
      | iv _ _ h => exact ⟨h, h2⟩
    refine .iv _ _ (.agg xs vs (by simpa using hn) ?_ (fun q c v hc hv => (key q c v hc hv).1))
    intro c hc
    obtain ⟨q, hq⟩ := List.getElem?_of_mem hc
    have hlt : q < vs.size := by have := (List.getElem?_eq_some_iff.1 hq).1; simp at hn; omega
    obtain ⟨h1, h2⟩ := key q c vs[q] hq (by simp [hlt])
    exact one_of_rel h1 h2
  · refine .agg cs vs hn ?_ (fun q c v hc hv => (hr q c v hc hv).1)
    intro v hv
    obtain ⟨q, hq⟩ := Array.getElem?_of_mem hv
    have hlt : q < cs.length := by have := (Array.getElem?_eq_some_iff.1 hq).1; omega
    exact (hr q cs[q] v (by simp) hq).2

end Go.Proofs.YtdlgenppdgkacaaGreatDoor.Ag
