/- Changes: plain laws of chains. -/
import Derived.Test.YtmdkcapbahjipaaDoorTU4
set_option linter.unusedVariables false
set_option linter.unusedSimpArgs false
namespace Go.Proofs.YtmdkcapbahjipaaDoor.Ag
theorem worse_le {k w : Int} {c : Chg} : worse w c ≤ k ↔ w ≤ k ∧ c.cls ≤ k := by unfold worse; split <;> omega
theorem foldl_worse_le {k : Int} : ∀ (l : List Chg) (w : Int), l.foldl worse w ≤ k ↔ w ≤ k ∧ ∀ c ∈ l, c.cls ≤ k
  | [], w => by simp
  | c :: l, w => by
    rw [List.foldl_cons, foldl_worse_le l (worse w c), worse_le]
    simp only [List.mem_cons, forall_eq_or_imp]
    constructor
    · rintro ⟨⟨h1, h2⟩, h3⟩; exact ⟨h1, h2, h3⟩
    · rintro ⟨h1, h2, h3⟩; exact ⟨⟨h1, h2⟩, h3⟩
theorem worstN_le {k : Int} (l : List Chg) : worstN l ≤ k ↔ 1 ≤ k ∧ ∀ c ∈ l, c.cls ≤ k := foldl_worse_le l 1
theorem worstN_ge {l : List Chg} {c : Chg} (h : c ∈ l) : c.cls ≤ worstN l := ((worstN_le (k := worstN l) l).1 (Int.le_refl _)).2 c h
theorem worstN_one (l : List Chg) : 1 ≤ worstN l := ((worstN_le (k := worstN l) l).1 (Int.le_refl _)).1
theorem en1_cls {x y : Ty} {s : Sym} {c : Chg} (h : c ∈ en1 x y s) : c.cls = 3 ∨ c.cls = 4 := by
  unfold en1 at h
  split at h
  · simp at h; subst h; exact .inr rfl
  · split at h
    · cases h
    · simp at h; subst h; exact .inl rfl
theorem en2_cls {x y : Ty} {s : Sym} {c : Chg} (h : c ∈ en2 x y s) : c.cls = 3 ∨ c.cls = 4 := by
  unfold en2 at h
  split at h
  · simp at h; subst h; exact .inl rfl
  · cases h
theorem clsN_34 (b : Bool) : clsN b = 3 ∨ clsN b = 4 := by cases b <;> simp [clsN]
theorem fcA_cls {x : Ty} {f g : FT} {c : Chg} (h : c ∈ fcA x f g) : c.cls = 3 ∨ c.cls = 4 := by
  unfold fcA at h
  split at h
  · cases h
  · simp at h; subst h; exact .inl rfl
theorem fcB_cls {a b : List Ty} {x : Ty} {f g : FT} {c : Chg} (h : c ∈ fcB a b x f g) : c.cls = 3 ∨ c.cls = 4 := by
  unfold fcB at h
  split at h
  · split at h
    · simp at h; subst h; exact .inr rfl
    · cases h
  · simp at h; subst h; exact clsN_34 _
theorem fcC_cls {x y : Ty} {f g : FT} {c : Chg} (h : c ∈ fcC x y f g) : c.cls = 3 ∨ c.cls = 4 := by
  unfold fcC at h
  split at h
  · split at h
    · simp at h; subst h; exact .inr rfl
    · split at h
      · simp at h; subst h; exact .inr rfl
      · cases h
  · simp at h; subst h; exact clsN_34 _
theorem fieldC_cls {a b : List Ty} {x y : Ty} {f g : FT} {c : Chg} (h : c ∈ fieldC a b x y f g) : c.cls = 3 ∨ c.cls = 4 := by
  unfold fieldC at h
  rcases List.mem_append.1 h with h | h
  · rcases List.mem_append.1 h with h | h
    · exact fcA_cls h
    · exact fcB_cls h
  · exact fcC_cls h
theorem ms1_cls {a b : List Ty} {x y : Ty} {f : FT} {c : Chg} (h : c ∈ ms1 a b x y f) : c.cls = 3 ∨ c.cls = 4 := by
  unfold ms1 at h
  split at h
  · exact fieldC_cls h
  · simp at h; subst h; exact .inr rfl
theorem ms2_cls {x : Ty} {f : FT} {c : Chg} (h : c ∈ ms2 x f) : c.cls = 2 := by
  unfold ms2 at h
  split at h
  · cases h
  · simp at h; subst h; rfl
theorem ms3_cls {x y : Ty} {c : Chg} (h : c ∈ ms3 x y) : c.cls = 3 ∨ c.cls = 4 := by
  unfold ms3 at h
  split at h
  · cases h
  · simp at h; subst h; exact clsN_34 _
theorem df2_cls {a : List Ty} {y : Ty} {c : Chg} (h : c ∈ df2 a y) : c.cls = 2 := by
  unfold df2 at h
  split at h
  · simp at h; subst h; rfl
  · cases h
theorem df1_cls {a b : List Ty} {x : Ty} {c : Chg} (h : c ∈ df1 a b x) : 2 ≤ c.cls ∧ c.cls ≤ 4 := by
  unfold df1 at h
  split at h
  · simp at h; subst h; exact ⟨by simp, by simp⟩
  · split at h
    · split at h
      · unfold enumsC at h
        rcases List.mem_append.1 h with h | h
        · obtain ⟨s, _, h⟩ := List.mem_flatMap.1 h; have := en1_cls h; omega
        · obtain ⟨s, _, h⟩ := List.mem_flatMap.1 h; have := en2_cls h; omega
      · unfold messagesC at h
        rcases List.mem_append.1 h with h | h
        · rcases List.mem_append.1 h with h | h
          · obtain ⟨s, _, h⟩ := List.mem_flatMap.1 h; have := ms1_cls h; omega
          · obtain ⟨s, _, h⟩ := List.mem_flatMap.1 h; have := ms2_cls h; omega
        · have := ms3_cls h; omega
    · simp at h; subst h; exact ⟨by simp, by simp⟩
theorem diffC_cls {a b : List Ty} {c : Chg} (h : c ∈ diffC a b) : 2 ≤ c.cls ∧ c.cls ≤ 4 := by
  unfold diffC at h
  rcases List.mem_append.1 h with h | h
  · obtain ⟨s, _, h⟩ := List.mem_flatMap.1 h; exact df1_cls h
  · obtain ⟨s, _, h⟩ := List.mem_flatMap.1 h; have := df2_cls h; omega
theorem nil_of_cls {l : List Chg} (h1 : ∀ c ∈ l, c.cls = 3 ∨ c.cls = 4) (h2 : ∀ c ∈ l, c.cls ≤ 2) : l = [] := by
  cases l with
  | nil => rfl
  | cons c l =>
    have e1 := h1 c (List.mem_cons_self ..)
    have e2 := h2 c (List.mem_cons_self ..)
    omega
def FSame (a b : List Ty) (x y : Ty) (f g : FT) : Prop := f.name = g.name ∧ f.kind = g.kind ∧ ((f.kind = 16 ∨ f.kind = 17) → nameAt a f.ref = nameAt b g.ref) ∧ f.label = g.label ∧ (f.label = 4 → ooAt x.oneofs f.oneof = ooAt y.oneofs g.oneof) ∧ (f.label = 5 → f.key = g.key)
theorem fieldC_nil {a b : List Ty} {x y : Ty} {f g : FT} : fieldC a b x y f g = [] ↔ FSame a b x y f g := by
  unfold fieldC FSame
  rw [List.append_eq_nil_iff, List.append_eq_nil_iff]
  have hA : fcA x f g = [] ↔ f.name = g.name := by unfold fcA; split <;> simp_all
  have hB : fcB a b x f g = [] ↔ f.kind = g.kind ∧ ((f.kind = 16 ∨ f.kind = 17) → nameAt a f.ref = nameAt b g.ref) := by
    unfold fcB
    split
    · rename_i hk
      split
      · rename_i h; simp only [List.cons_ne_nil, false_iff, not_and]; exact fun _ h2 => h.2 (h2 h.1)
      · rename_i h
        simp only [true_iff]
        refine ⟨hk, fun hr => ?_⟩
        by_cases e : nameAt a f.ref = nameAt b g.ref
        · exact e
        · exact absurd ⟨hr, e⟩ h
    · rename_i hk; simp [hk]
  have hC : fcC x y f g = [] ↔ f.label = g.label ∧ (f.label = 4 → ooAt x.oneofs f.oneof = ooAt y.oneofs g.oneof) ∧ (f.label = 5 → f.key = g.key) := by
    unfold fcC
    split
    · rename_i hk
      split
      · rename_i h; simp only [List.cons_ne_nil, false_iff, not_and]; exact fun _ h2 => absurd (h2 h.1) h.2
      · rename_i h
        split
        · rename_i h5; simp only [List.cons_ne_nil, false_iff, not_and]; exact fun _ _ h2 => h5.2 (h2 h5.1)
        · rename_i h5
          simp only [true_iff]
          refine ⟨hk, fun hr => ?_, fun hr => ?_⟩
          · by_cases e : ooAt x.oneofs f.oneof = ooAt y.oneofs g.oneof
            · exact e
            · exact absurd ⟨hr, e⟩ h
          · by_cases e : f.key = g.key
            · exact e
            · exact absurd ⟨hr, e⟩ h5
    · rename_i hk; simp [hk]
  rw [hA, hB, hC]
  constructor
  · rintro ⟨⟨h1, h2, h3⟩, h4, h5, h6⟩; exact ⟨h1, h2, h3, h4, h5, h6⟩
  · rintro ⟨h1, h2, h3, h4, h5, h6⟩; exact ⟨⟨h1, h2, h3⟩, h4, h5, h6⟩
theorem FSame.refl (a : List Ty) (x : Ty) (f : FT) : FSame a a x x f f := ⟨rfl, rfl, fun _ => rfl, rfl, fun _ => rfl, fun _ => rfl⟩
theorem FSame.symm {a b : List Ty} {x y : Ty} {f g : FT} (h : FSame a b x y f g) : FSame b a y x g f := by
  obtain ⟨h1, h2, h3, h4, h5, h6⟩ := h
  exact ⟨h1.symm, h2.symm, fun h => (h3 (h2 ▸ h)).symm, h4.symm, fun h => (h5 (h4.trans h)).symm, fun h => (h6 (h4.trans h)).symm⟩
theorem FSame.trans {a b c : List Ty} {x y z : Ty} {f g k : FT} (h : FSame a b x y f g) (h' : FSame b c y z g k) : FSame a c x z f k := by
  obtain ⟨h1, h2, h3, h4, h5, h6⟩ := h
  obtain ⟨k1, k2, k3, k4, k5, k6⟩ := h'
  exact ⟨h1.trans k1, h2.trans k2, fun h => (h3 h).trans (k3 (h2 ▸ h)), h4.trans k4, fun h => (h5 h).trans (k5 (h4.symm.trans h)), fun h => (h6 h).trans (k6 (h4.symm.trans h))⟩
def ESame (x y : Ty) : Prop := (∀ s ∈ x.syms, ∃ q, syF y.syms s.num = some q ∧ q.name = s.name) ∧ ∀ q ∈ y.syms, ∃ s, syF x.syms q.num = some s
def MSame (a b : List Ty) (x y : Ty) : Prop := (∀ f ∈ x.fields, ∃ g, atF y.fields f.number = some g ∧ FSame a b x y f g) ∧ numsF x.rsv = numsF y.rsv
def TSame (a b : List Ty) (x : Ty) : Prop := ∃ y, fN b x.name = some y ∧ x.enum = y.enum ∧ (x.enum = true → ESame x y) ∧ (x.enum = false → MSame a b x y)
theorem syF_num {l : List Sym} {n : Int} {q : Sym} (h : syF l n = some q) : q.num = n ∧ q ∈ l := ⟨by have := List.find?_some h; simpa using this, List.mem_of_find?_eq_some h⟩
theorem atF_num {l : List FT} {n : Int} {q : FT} (h : atF l n = some q) : q.number = n ∧ q ∈ l := ⟨by have := List.find?_some h; simpa using this, List.mem_of_find?_eq_some h⟩
theorem fN_name {t : List Ty} {n : ByteArray} {y : Ty} (h : fN t n = some y) : y.name = n := by have := List.find?_some h; simpa using this
theorem enumsC_nil {x y : Ty} : enumsC x y = [] ↔ ESame x y := by
  unfold enumsC ESame
  rw [List.append_eq_nil_iff, List.flatMap_eq_nil_iff, List.flatMap_eq_nil_iff]
  constructor
  · rintro ⟨h1, h2⟩
    refine ⟨fun s hs => ?_, fun q hq => ?_⟩
    · have := h1 s hs
      unfold en1 at this
      split at this
      · cases this
      · rename_i q hq
        split at this
        · rename_i hn; exact ⟨q, hq, hn⟩
        · cases this
    · have := h2 q hq
      unfold en2 at this
      split at this
      · cases this
      · rename_i s hs; exact ⟨s, hs⟩
  · rintro ⟨h1, h2⟩
    refine ⟨fun s hs => ?_, fun q hq => ?_⟩
    · obtain ⟨q, hq, hn⟩ := h1 s hs
      simp [en1, hq, hn]
    · obtain ⟨s, hs⟩ := h2 q hq
      simp [en2, hs]
theorem ms3_nil {x y : Ty} : ms3 x y = [] ↔ numsF x.rsv = numsF y.rsv := by
  unfold ms3 eqR
  by_cases h : numsF x.rsv = numsF y.rsv <;> simp [h]
theorem df1_le {a b : List Ty} {x : Ty} : (∀ c ∈ df1 a b x, c.cls ≤ 2) ↔ TSame a b x := by
  unfold df1 TSame
  cases hf : fN b x.name with
  | none => simp
  | some y =>
    simp only [Option.some.injEq, exists_eq_left']
    by_cases he : x.enum = y.enum
    · rw [if_pos he]
      by_cases hx : x.enum = true
      · rw [if_pos hx]
        constructor
        · intro h
          refine ⟨he, fun _ => enumsC_nil.1 (nil_of_cls (fun c hc => ?_) h), fun h => absurd hx (by rw [h]; simp)⟩
          unfold enumsC at hc
          rcases List.mem_append.1 hc with hc | hc
          · obtain ⟨s, _, hc⟩ := List.mem_flatMap.1 hc; exact en1_cls hc
          · obtain ⟨s, _, hc⟩ := List.mem_flatMap.1 hc; exact en2_cls hc
        · rintro ⟨_, h, _⟩ c hc
          rw [enumsC_nil.2 (h hx)] at hc; cases hc
      · rw [if_neg hx]
        have hxf : x.enum = false := by simpa using hx
        constructor
        · intro h
          refine ⟨he, fun h => absurd h hx, fun _ => ⟨fun f hfm => ?_, ?_⟩⟩
          · have h1 : ∀ c ∈ ms1 a b x y f, c.cls ≤ 2 := fun c hc => h c (List.mem_append.2 (.inl (List.mem_append.2 (.inl (List.mem_flatMap.2 ⟨f, hfm, hc⟩)))))
            have h2 := nil_of_cls (fun c hc => ms1_cls hc) h1
            unfold ms1 at h2
            split at h2
            · rename_i g hg; exact ⟨g, hg, fieldC_nil.1 h2⟩
            · cases h2
          · exact ms3_nil.1 (nil_of_cls (fun c hc => ms3_cls hc) fun c hc => h c (List.mem_append.2 (.inr hc)))
        · rintro ⟨_, _, h⟩ c hc
          obtain ⟨h1, h2⟩ := h hxf
          rcases List.mem_append.1 hc with hc | hc
          · rcases List.mem_append.1 hc with hc | hc
            · obtain ⟨f, hfm, hc⟩ := List.mem_flatMap.1 hc
              obtain ⟨g, hg, hs⟩ := h1 f hfm
              unfold ms1 at hc
              rw [hg] at hc
              dsimp only at hc
              rw [fieldC_nil.2 hs] at hc; cases hc
            · obtain ⟨g, _, hc⟩ := List.mem_flatMap.1 hc
              have := ms2_cls hc; omega
          · rw [ms3_nil.2 h2] at hc; cases hc
    · rw [if_neg he]
      constructor
      · intro h; have := h _ (List.mem_singleton.2 rfl); simp at this
      · rintro ⟨h, _⟩; exact absurd h he
theorem diff_le {a b : List Ty} : worstN (diffC a b) ≤ 2 ↔ ∀ x ∈ a, TSame a b x := by
  rw [worstN_le]
  constructor
  · rintro ⟨_, h⟩ x hx
    exact df1_le.1 fun c hc => h c (List.mem_append.2 (.inl (List.mem_flatMap.2 ⟨x, hx, hc⟩)))
  · intro h
    refine ⟨by decide, fun c hc => ?_⟩
    rcases List.mem_append.1 hc with hc | hc
    · obtain ⟨x, hx, hc⟩ := List.mem_flatMap.1 hc; exact df1_le.2 (h x hx) c hc
    · obtain ⟨y, _, hc⟩ := List.mem_flatMap.1 hc; have := df2_cls hc; omega
theorem rising_nodupW {l : List FT} (h : Rising l) : (l.map FT.number).Nodup := by
  rw [List.nodup_iff_pairwise_ne, List.pairwise_map, List.pairwise_iff_getElem]
  intro i j hi hj hij e
  have := h i j _ _ hij (List.getElem?_eq_getElem hi) (List.getElem?_eq_getElem hj)
  omega
theorem find_uniq {α : Type} {p : α → Bool} {l : List α} {x : α} (h : ∀ (i : Nat) (a : α), l[i]? = some a → ∀ b ∈ l.take i, p a = true → p b = false) (hx : x ∈ l) (hp : p x = true) : l.find? p = some x := by
  obtain ⟨i, hi⟩ := List.getElem?_of_mem hx
  obtain ⟨h1, h2⟩ := List.getElem?_eq_some_iff.1 hi
  rw [List.find?_eq_some_iff_getElem]
  refine ⟨hp, i, h1, h2, fun j hj => ?_⟩
  have hm : l[j]'(by omega) ∈ l.take i := List.mem_of_getElem? (i := j) (by rw [List.getElem?_take, if_pos hj]; simp)
  simp [h i x hi _ hm hp]
theorem fN_self {t : List Ty} (h : UniqN t) {x : Ty} (hx : x ∈ t) : fN t x.name = some x := by
  refine find_uniq (fun i a ha b hb hp => ?_) hx (by simp)
  simp only [decide_eq_true_eq] at hp
  have := h i a ha b hb
  simp only [decide_eq_false_iff_not]
  rw [← hp]; exact this
theorem nodup_find {α : Type} {k : α → Int} : ∀ {l : List α} {x : α}, (l.map k).Nodup → x ∈ l → l.find? (fun a => decide (k a = k x)) = some x
  | [], x, _, hx => by cases hx
  | a :: l, x, h, hx => by
    rw [List.map_cons, List.nodup_cons] at h
    rw [List.find?_cons]
    by_cases e : k a = k x
    · rcases List.mem_cons.1 hx with rfl | hx1
      · simp
      · exact absurd (e ▸ List.mem_map_of_mem hx1) h.1
    · simp only [e, decide_false]
      rcases List.mem_cons.1 hx with rfl | hx1
      · exact absurd rfl e
      · exact nodup_find h.2 hx1
theorem syF_self {l : List Sym} (h : (l.map Sym.num).Nodup) {s : Sym} (hs : s ∈ l) : syF l s.num = some s := nodup_find h hs
theorem atF_self {l : List FT} (h : Rising l) {f : FT} (hf : f ∈ l) : atF l f.number = some f := nodup_find (rising_nodupW h) hf
theorem ESame.refl {x : Ty} (h : (x.syms.map Sym.num).Nodup) : ESame x x := ⟨fun s hs => ⟨s, syF_self h hs, rfl⟩, fun q hq => ⟨q, syF_self h hq⟩⟩
theorem ESame.symm {x y : Ty} (hx : (x.syms.map Sym.num).Nodup) (hy : (y.syms.map Sym.num).Nodup) (h : ESame x y) : ESame y x := by
  refine ⟨fun q hq => ?_, fun s hs => ?_⟩
  · obtain ⟨s, hs⟩ := h.2 q hq
    obtain ⟨e1, hsm⟩ := syF_num hs
    obtain ⟨q', hq', hn⟩ := h.1 s hsm
    rw [e1, syF_self hy hq] at hq'
    injection hq' with hq'; subst hq'
    exact ⟨s, hs, hn.symm⟩
  · obtain ⟨q, hq, _⟩ := h.1 s hs
    exact ⟨q, hq⟩
theorem ESame.trans {x y z : Ty} (h : ESame x y) (k : ESame y z) : ESame x z := by
  refine ⟨fun s hs => ?_, fun r hr => ?_⟩
  · obtain ⟨q, hq, hn⟩ := h.1 s hs
    obtain ⟨e1, hqm⟩ := syF_num hq
    obtain ⟨r, hr, hn2⟩ := k.1 q hqm
    exact ⟨r, e1 ▸ hr, hn2.trans hn⟩
  · obtain ⟨q, hq⟩ := k.2 r hr
    obtain ⟨e1, hqm⟩ := syF_num hq
    obtain ⟨s, hs⟩ := h.2 q hqm
    exact ⟨s, e1 ▸ hs⟩
theorem MSame.refl (a : List Ty) {x : Ty} (h : Rising x.fields) : MSame a a x x := ⟨fun f hf => ⟨f, atF_self h hf, .refl a x f⟩, rfl⟩
theorem MSame.trans {a b c : List Ty} {x y z : Ty} (h : MSame a b x y) (k : MSame b c y z) : MSame a c x z := by
  refine ⟨fun f hf => ?_, h.2.trans k.2⟩
  obtain ⟨g, hg, hs⟩ := h.1 f hf
  obtain ⟨e1, hgm⟩ := atF_num hg
  obtain ⟨r, hr, hs2⟩ := k.1 g hgm
  exact ⟨r, e1 ▸ hr, hs.trans hs2⟩
theorem good_enum {t : List Ty} (h : GoodT t) {x : Ty} (hx : x ∈ t) (he : x.enum = true) : (x.syms.map Sym.num).Nodup := ((good_at h hx).1 he).2.2.2.2.2.2.2.2
theorem good_rising {t : List Ty} (h : GoodT t) {x : Ty} (hx : x ∈ t) (he : x.enum = false) : Rising x.fields := msg_rising ((good_at h hx).2 he)
theorem diff_refl {a : List Ty} (ha : GoodT a) : diffC a a = [] := by
  have hU := good_uniq ha
  unfold diffC
  rw [List.append_eq_nil_iff, List.flatMap_eq_nil_iff, List.flatMap_eq_nil_iff]
  refine ⟨fun x hx => ?_, fun y hy => ?_⟩
  · unfold df1
    rw [fN_self hU hx]
    simp only [if_true]
    split
    · rename_i he; exact enumsC_nil.2 (.refl (good_enum ha hx he))
    · rename_i he
      have hr := good_rising ha hx (by simpa using he)
      unfold messagesC
      rw [List.append_eq_nil_iff, List.append_eq_nil_iff, List.flatMap_eq_nil_iff, List.flatMap_eq_nil_iff]
      refine ⟨⟨fun f hf => ?_, fun g hg => ?_⟩, ms3_nil.2 rfl⟩
      · simp only [ms1, atF_self hr hf]; exact fieldC_nil.2 (.refl a x f)
      · simp only [ms2, atF_self hr hg]
  · simp only [df2, fN_self hU hy]
theorem diff_trans {a b c : List Ty} (h1 : worstN (diffC a b) ≤ 2) (h2 : worstN (diffC b c) ≤ 2) : worstN (diffC a c) ≤ 2 := by
  rw [diff_le] at *
  intro x hx
  obtain ⟨y, hy, e1, e2, e3⟩ := h1 x hx
  obtain ⟨z, hz, k1, k2, k3⟩ := h2 y (fN_mem hy)
  have hn := fN_name hy
  refine ⟨z, by rw [← hn]; exact hz, e1.trans k1, fun h => (e2 h).trans (k2 (e1 ▸ h)), fun h => (e3 h).trans (k3 (e1 ▸ h))⟩
theorem worst_nil {l : List Chg} (h2 : ∀ c ∈ l, 2 ≤ c.cls) : worstN l = 1 ↔ l = [] := by
  constructor
  · intro h
    cases l with
    | nil => rfl
    | cons c l =>
      have e1 := worstN_ge (List.mem_cons_self (a := c) (l := l))
      have e2 := h2 c (List.mem_cons_self ..)
      omega
  · rintro rfl; rfl
theorem diff_symm {a b : List Ty} (ha : GoodT a) (hb : GoodT b) (h : diffC a b = []) : diffC b a = [] := by
  have hUa := good_uniq ha
  have hUb := good_uniq hb
  unfold diffC at h
  rw [List.append_eq_nil_iff, List.flatMap_eq_nil_iff, List.flatMap_eq_nil_iff] at h
  obtain ⟨h1, h2⟩ := h
  have hT : ∀ x ∈ a, TSame a b x := fun x hx => df1_le.1 (by rw [h1 x hx]; intro c hc; cases hc)
  unfold diffC
  rw [List.append_eq_nil_iff, List.flatMap_eq_nil_iff, List.flatMap_eq_nil_iff]
  refine ⟨fun y hy => ?_, fun x hx => ?_⟩
  · have h3 := h2 y hy
    unfold df2 at h3
    split at h3
    · cases h3
    · rename_i x hx
      have hxm := fN_mem hx
      have hxn := fN_name hx
      obtain ⟨y', hy', e1, e2, e3⟩ := hT x hxm
      rw [hxn, fN_self hUb hy] at hy'
      injection hy' with hy'; subst hy'
      have h4 := h1 x hxm
      unfold df1 at h4 ⊢
      rw [hx]
      rw [hxn, fN_self hUb hy] at h4
      dsimp only at h4 ⊢
      rw [if_pos e1] at h4
      rw [if_pos e1.symm]
      by_cases he : x.enum = true
      · rw [if_pos (e1 ▸ he)]
        exact enumsC_nil.2 ((e2 he).symm (good_enum ha hxm he) (good_enum hb hy (e1 ▸ he)))
      · have hef : x.enum = false := by simpa using he
        rw [if_neg he] at h4
        rw [if_neg (by rw [← e1]; exact he)]
        have hm := e3 hef
        have hry := good_rising hb hy (e1 ▸ hef)
        unfold messagesC at h4 ⊢
        rw [List.append_eq_nil_iff, List.append_eq_nil_iff, List.flatMap_eq_nil_iff, List.flatMap_eq_nil_iff] at h4 ⊢
        obtain ⟨⟨_, h5⟩, _⟩ := h4
        refine ⟨⟨fun g hg => ?_, fun f hf => ?_⟩, ms3_nil.2 hm.2.symm⟩
        · have h6 := h5 g hg
          unfold ms2 at h6
          split at h6
          · rename_i f hf
            obtain ⟨n1, hfm⟩ := atF_num hf
            obtain ⟨g', hg', hs⟩ := hm.1 f hfm
            rw [n1, atF_self hry hg] at hg'
            injection hg' with hg'; subst hg'
            simp only [ms1, hf]
            exact fieldC_nil.2 hs.symm
          · cases h6
        · obtain ⟨g, hg, _⟩ := hm.1 f hf
          simp only [ms2, hg]
  · obtain ⟨y, hy, _⟩ := hT x hx
    simp only [df2, hy]
theorem diff_back {a b : List Ty} (ha : GoodT a) (hb : GoodT b) (h : worstN (diffC a b) = 2) : worstN (diffC b a) = 4 := by
  have hUa := good_uniq ha
  have hUb := good_uniq hb
  have hT := diff_le.1 (Int.le_of_eq h)
  have hle : worstN (diffC b a) ≤ 4 := (worstN_le _).2 ⟨by decide, fun c hc => (diffC_cls hc).2⟩
  have hex : ∃ c ∈ diffC b a, c.cls = 4 := by
    cases hd : diffC a b with
    | nil => rw [hd] at h; simp [worstN] at h
    | cons c l =>
      have hc : c ∈ diffC a b := by rw [hd]; exact List.mem_cons_self ..
      unfold diffC at hc
      rcases List.mem_append.1 hc with hc | hc
      · obtain ⟨x, hx, hc⟩ := List.mem_flatMap.1 hc
        obtain ⟨y, hy, e1, e2, e3⟩ := hT x hx
        have hym := fN_mem hy
        have hyn := fN_name hy
        unfold df1 at hc
        rw [hy] at hc
        dsimp only at hc
        rw [if_pos e1] at hc
        by_cases he : x.enum = true
        · rw [if_pos he, enumsC_nil.2 (e2 he)] at hc; cases hc
        · have hef : x.enum = false := by simpa using he
          rw [if_neg he] at hc
          have hm := e3 hef
          unfold messagesC at hc
          rcases List.mem_append.1 hc with hc | hc
          · rcases List.mem_append.1 hc with hc | hc
            · obtain ⟨f, hfm, hc⟩ := List.mem_flatMap.1 hc
              obtain ⟨g, hg, hs⟩ := hm.1 f hfm
              unfold ms1 at hc
              rw [hg] at hc
              dsimp only at hc
              rw [fieldC_nil.2 hs] at hc; cases hc
            · obtain ⟨g, hgm, hc⟩ := List.mem_flatMap.1 hc
              unfold ms2 at hc
              split at hc
              · cases hc
              · rename_i hg
                refine ⟨⟨4, 5, y.name, g.number⟩, ?_, rfl⟩
                unfold diffC
                refine List.mem_append.2 (.inl (List.mem_flatMap.2 ⟨y, hym, ?_⟩))
                unfold df1
                rw [hyn, fN_self hUa hx]
                dsimp only
                rw [if_pos e1.symm, if_neg (by rw [← e1]; exact he)]
                unfold messagesC
                refine List.mem_append.2 (.inl (List.mem_append.2 (.inl (List.mem_flatMap.2 ⟨g, hgm, ?_⟩))))
                simp [ms1, hg, hyn]
          · rw [ms3_nil.2 hm.2] at hc; cases hc
      · obtain ⟨y, hy, hc⟩ := List.mem_flatMap.1 hc
        unfold df2 at hc
        split at hc
        · rename_i hf
          refine ⟨⟨4, 1, y.name, 0⟩, ?_, rfl⟩
          unfold diffC
          refine List.mem_append.2 (.inl (List.mem_flatMap.2 ⟨y, hy, ?_⟩))
          simp [df1, hf]
        · cases hc
  obtain ⟨c, hc, h4⟩ := hex
  have := worstN_ge hc
  omega
end Go.Proofs.YtmdkcapbahjipaaDoor.Ag
