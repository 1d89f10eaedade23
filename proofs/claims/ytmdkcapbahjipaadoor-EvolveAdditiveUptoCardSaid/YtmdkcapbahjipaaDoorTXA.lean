/- Ranges: as few as will do, alike: plain laws. -/
import Derived.Test.YtmdkcapbahjipaaDoorTU2
import Derived.Test.YtmdkcapbahjipaaDoorTAirE
import Derived.Test.YtmdkcapbahjipaaDoorTW12
set_option linter.unusedVariables false
set_option linter.unusedSimpArgs false
open Nat renaming reduceEqDiff → zn0, reduceAdd → zn1, reduceSub → zn2, reduceLeDiff → zn3, reduceMul → zn4, reduceBEq → zn5, reducePow → zn6, reduceLT → zn7, reduceDiv → zn8, reduceMod → zn9
open Int renaming reduceLT → zi0, reduceLE → zi1, reduceNeg → zi2, reduceEq → zi3, reduceToNat → zi4
namespace Go.Proofs.YtmdkcapbahjipaaDoor.Ag
def Cov (l : List Rng) (n : Int) : Prop := ∃ r ∈ l, r.low ≤ n ∧ n ≤ r.high
def Gap (k : Int) (l : List Rng) : Prop := l.Pairwise (fun p q => p.high + k < q.low) ∧ ∀ r ∈ l, r.low ≤ r.high
theorem Cov.cons {o : Rng} {l : List Rng} {n : Int} : Cov (o :: l) n ↔ (o.low ≤ n ∧ n ≤ o.high) ∨ Cov l n := by simp [Cov]
theorem Gap.cons {k : Int} {o : Rng} {l : List Rng} : Gap k (o :: l) ↔ (∀ q ∈ l, o.high + k < q.low) ∧ o.low ≤ o.high ∧ Gap k l := by
  simp only [Gap, List.pairwise_cons, List.mem_cons, forall_eq_or_imp]
  constructor
  · rintro ⟨⟨h1, h2⟩, h3, h4⟩; exact ⟨h1, h3, h2, h4⟩
  · rintro ⟨h1, h3, h2, h4⟩; exact ⟨⟨h1, h2⟩, h3, h4⟩
theorem pw_mem {k : Int} {l : List Rng} (h : l.Pairwise (fun p q => p.high + k < q.low)) {p q : Rng} (hp : p ∈ l) (hq : q ∈ l) : p = q ∨ p.high + k < q.low ∨ q.high + k < p.low := by
  induction l with
  | nil => cases hp
  | cons a l ih =>
    rw [List.pairwise_cons] at h
    rcases List.mem_cons.1 hp with e1 | hp1
    · rcases List.mem_cons.1 hq with e2 | hq1
      · exact .inl (e1.trans e2.symm)
      · exact .inr (.inl (by rw [e1]; exact h.1 q hq1))
    · rcases List.mem_cons.1 hq with e2 | hq1
      · exact .inr (.inr (by rw [e2]; exact h.1 p hp1))
      · exact ih h.2 hp1 hq1
theorem RsvOk.gap {l : List Rng} (h : RsvOk l) : Gap 0 l := by
  refine ⟨?_, fun r hr => (h.hi r hr).2.2⟩
  have step : ∀ (d i : Nat) (f g : Rng), l[i]? = some f → l[i + d + 1]? = some g → f.high + 0 < g.low := by
    intro d
    induction d with
    | zero =>
      intro i f g h1 h2
      have := (h (i + 1) g h2).2.2.2 f (by omega) (by simpa using h1)
      omega
    | succ d ih =>
      intro i f g h1 h2
      have hlt := (List.getElem?_eq_some_iff.1 h2).1
      obtain ⟨m, hm⟩ : ∃ m, l[i + d + 1]? = some m := ⟨l[i + d + 1]'(by omega), by rw [List.getElem?_eq_getElem]⟩
      have h3 := ih i f m h1 hm
      have h4 := (h (i + (d + 1) + 1) g h2).2.2.2 m (by omega) (by rw [show i + (d + 1) + 1 - 1 = i + d + 1 by omega]; exact hm)
      have h5 := (h (i + d + 1) m hm).2.2.1
      omega
  rw [List.pairwise_iff_getElem]
  intro i j hi hj hij
  exact step (j - i - 1) i _ _ (List.getElem?_eq_getElem hi) (by rw [show i + (j - i - 1) + 1 = j by omega]; exact List.getElem?_eq_getElem hj)
theorem nums_gap : ∀ (l acc : List Rng), Gap 1 acc → Gap 0 l → (∀ p ∈ acc, ∀ r ∈ l, p.high < r.low) → Gap 1 (l.foldl addR acc) ∧ ∀ n, Cov (l.foldl addR acc) n ↔ Cov acc n ∨ Cov l n
  | [], acc, h1, h2, h3 => ⟨h1, fun n => by simp [Cov]⟩
  | r :: l, acc, h1, h2, h3 => by
    rw [Gap.cons] at h2
    obtain ⟨g1, g2, g3⟩ := h2
    have key : Gap 1 (addR acc r) ∧ (∀ p ∈ addR acc r, ∀ q ∈ l, p.high < q.low) ∧ ∀ n, Cov (addR acc r) n ↔ Cov acc n ∨ (r.low ≤ n ∧ n ≤ r.high) := by
      rcases List.eq_nil_or_concat acc with rfl | ⟨ini, p, rfl⟩
      · refine ⟨⟨by simp [addR], fun q hq => by simp [addR] at hq; subst hq; exact g2⟩, fun p hp q hq => ?_, fun n => by simp [addR, Cov]⟩
        simp [addR] at hp; subst hp
        have := g1 q hq; omega
      · rw [List.concat_eq_append] at *
        have hgl : (ini ++ [p]).getLast? = some p := by simp
        have hdl : (ini ++ [p]).dropLast = ini := by simp
        obtain ⟨hpw, hle⟩ := h1
        rw [List.pairwise_append] at hpw
        obtain ⟨q1, _, q3⟩ := hpw
        have hp2 := hle p (by simp)
        have hpr := h3 p (by simp) r (List.mem_cons_self ..)
        unfold addR
        rw [hgl]
        dsimp only
        split
        · rename_i he
          rw [hdl]
          refine ⟨⟨?_, ?_⟩, ?_, ?_⟩
          · rw [List.pairwise_append]
            refine ⟨q1, by simp, fun a ha b hb => ?_⟩
            simp only [List.mem_singleton] at hb; subst hb
            exact q3 a ha p (by simp)
          · intro q hq
            rcases List.mem_append.1 hq with h | h
            · exact hle q (by simp [h])
            · simp only [List.mem_singleton] at h; subst h; dsimp only; omega
          · intro a ha q hq
            have h5 := g1 q hq
            rcases List.mem_append.1 ha with h | h
            · exact h3 a (by simp [h]) q (List.mem_cons_of_mem _ hq)
            · simp only [List.mem_singleton] at h; subst h; dsimp only; omega
          · intro n
            simp only [Cov, List.mem_append, List.mem_singleton]
            constructor
            · rintro ⟨q, h | rfl, h1, h2⟩
              · exact .inl ⟨q, .inl h, h1, h2⟩
              · dsimp only at h1 h2
                by_cases h : n ≤ p.high
                · exact .inl ⟨p, .inr rfl, h1, h⟩
                · exact .inr ⟨by omega, h2⟩
            · rintro (⟨q, h | rfl, h1, h2⟩ | ⟨h1, h2⟩)
              · exact ⟨q, .inl h, h1, h2⟩
              · exact ⟨_, .inr rfl, h1, by dsimp only; omega⟩
              · exact ⟨_, .inr rfl, by dsimp only; omega, h2⟩
        · rename_i he
          refine ⟨⟨?_, ?_⟩, ?_, ?_⟩
          · rw [List.pairwise_append]
            refine ⟨by rw [List.pairwise_append]; exact ⟨q1, by simp, q3⟩, by simp, fun a ha b hb => ?_⟩
            simp only [List.mem_singleton] at hb; subst hb
            rcases List.mem_append.1 ha with h | h
            · have := q3 a h p (by simp)
              omega
            · simp only [List.mem_singleton] at h; subst h; omega
          · intro q hq
            rcases List.mem_append.1 hq with h | h
            · exact hle q h
            · simp only [List.mem_singleton] at h; subst h; exact g2
          · intro a ha q hq
            have h5 := g1 q hq
            rcases List.mem_append.1 ha with h | h
            · exact h3 a h q (List.mem_cons_of_mem _ hq)
            · simp only [List.mem_singleton] at h; subst h; omega
          · intro n
            simp only [Cov, List.mem_append, List.mem_singleton]
            constructor
            · rintro ⟨q, h | rfl, h1, h2⟩
              · exact .inl ⟨q, h, h1, h2⟩
              · exact .inr ⟨h1, h2⟩
            · rintro (⟨q, h, h1, h2⟩ | ⟨h1, h2⟩)
              · exact ⟨q, .inl h, h1, h2⟩
              · exact ⟨_, .inr rfl, h1, h2⟩
    obtain ⟨k1, k2⟩ := nums_gap l (addR acc r) key.1 g3 key.2.1
    refine ⟨k1, fun n => ?_⟩
    rw [List.foldl_cons, k2 n, key.2.2 n, Cov.cons, or_assoc]
theorem numsF_gap {l : List Rng} (h : RsvOk l) : Gap 1 (numsF l) := (nums_gap l [] ⟨.nil, by simp⟩ h.gap (by simp)).1
theorem numsF_cov {l : List Rng} (h : RsvOk l) (n : Int) : Cov (numsF l) n ↔ Cov l n := by
  have := (nums_gap l [] ⟨.nil, by simp⟩ h.gap (by simp)).2 n
  rw [numsF, this]; simp [Cov]
theorem within_iff {L M : List Rng} (hL : ∀ r ∈ L, r.low ≤ r.high) (hM : Gap 1 M) : withinB L M = true ↔ ∀ n, Cov L n → Cov M n := by
  simp only [withinB, List.all_eq_true, List.any_eq_true, inR, decide_eq_true_eq]
  constructor
  · rintro h n ⟨r, hr, h1, h2⟩
    obtain ⟨o, ho, h3, h4⟩ := h r hr
    exact ⟨o, ho, by omega, by omega⟩
  · intro h r hr
    have hle := hL r hr
    obtain ⟨o, ho, h1, h2⟩ := h r.low ⟨r, hr, Int.le_refl _, hle⟩
    refine ⟨o, ho, h1, ?_⟩
    rcases Int.lt_or_le o.high r.high with hlt | hle2
    · exfalso
      obtain ⟨o', ho', h3, h4⟩ := h (o.high + 1) ⟨r, hr, by omega, by omega⟩
      rcases pw_mem hM.1 ho ho' with rfl | h5 | h5
      · omega
      · omega
      · have := hM.2 o ho; omega
    · exact hle2
theorem eq_iff : ∀ {L M : List Rng}, Gap 1 L → Gap 1 M → (∀ n, Cov L n ↔ Cov M n) → L = M
  | [], [], _, _, _ => rfl
  | [], o :: M, _, hM, h => by
    have := (h o.low).2 ⟨o, List.mem_cons_self .., Int.le_refl _, hM.2 o (List.mem_cons_self ..)⟩
    obtain ⟨r, hr, _⟩ := this; cases hr
  | r :: L, [], hL, _, h => by
    have := (h r.low).1 ⟨r, List.mem_cons_self .., Int.le_refl _, hL.2 r (List.mem_cons_self ..)⟩
    obtain ⟨r, hr, _⟩ := this; cases hr
  | r :: L, o :: M, hL, hM, h => by
    rw [Gap.cons] at hL hM
    obtain ⟨a1, a2, a3⟩ := hL
    obtain ⟨b1, b2, b3⟩ := hM
    have covL : ∀ n, Cov L n → r.high + 1 < n := by
      rintro n ⟨q, hq, h1, h2⟩; have := a1 q hq; omega
    have covM : ∀ n, Cov M n → o.high + 1 < n := by
      rintro n ⟨q, hq, h1, h2⟩; have := b1 q hq; omega
    have e1 : r.low = o.low := by
      have h1 := (h r.low).1 (Cov.cons.2 (.inl ⟨Int.le_refl _, a2⟩))
      have h2 := (h o.low).2 (Cov.cons.2 (.inl ⟨Int.le_refl _, b2⟩))
      rw [Cov.cons] at h1 h2
      have h3 : o.low ≤ r.low := by
        rcases h1 with h1 | h1
        · exact h1.1
        · have := covM _ h1; omega
      have h4 : r.low ≤ o.low := by
        rcases h2 with h2 | h2
        · exact h2.1
        · have := covL _ h2; omega
      omega
    have e2 : r.high = o.high := by
      rcases Int.lt_trichotomy r.high o.high with hlt | he | hlt
      · have h1 := (h (r.high + 1)).2 (Cov.cons.2 (.inl ⟨by omega, by omega⟩))
        rw [Cov.cons] at h1
        rcases h1 with h1 | h1
        · omega
        · have := covL _ h1; omega
      · exact he
      · have h1 := (h (o.high + 1)).1 (Cov.cons.2 (.inl ⟨by omega, by omega⟩))
        rw [Cov.cons] at h1
        rcases h1 with h1 | h1
        · omega
        · have := covM _ h1; omega
    have er : r = o := by cases r; cases o; simp at e1 e2; simp [e1, e2]
    subst er
    congr 1
    refine eq_iff a3 b3 fun n => ?_
    have hn := h n
    rw [Cov.cons, Cov.cons] at hn
    constructor
    · intro h1
      rcases hn.1 (.inr h1) with h2 | h2
      · have := covL _ h1; omega
      · exact h2
    · intro h1
      rcases hn.2 (.inr h1) with h2 | h2
      · have := covM _ h1; omega
      · exact h2
set_option maxRecDepth 100000
def A_cartouchelaw18_EvolveAdditive_j : AFn := ⟨(.seq (.region [⟨some 2, none, .boxI (.t 0)⟩,
      ⟨some 3, none, .boxI (.t 1)⟩,
      ⟨some 4, none, .mov (.c (.bool false))⟩])
    (.seq (.seq (.region [⟨some 11, none, .call i_cartouchelaw18_awake []⟩,
      ⟨some 12, none, .un .not (.t 11)⟩])
    (.cond (.t 12) (.seq (.region [⟨some 4, none, .mov (.c (.bool false))⟩])
    .ret)
    .skip))
    (.seq (.region [⟨some 14, none, .load 1 true (.t 2)⟩,
      ⟨some 15, none, .load 1 true (.t 3)⟩,
      ⟨some 16, none, .call i_evolve_Diff [.t 14, .t 15]⟩,
      ⟨some 13, none, .mov (.t 16)⟩,
      ⟨some 17, none, .ext 0 (.t 13)⟩,
      ⟨some 18, none, .ext 1 (.t 13)⟩,
      ⟨some 19, none, .ext 2 (.t 13)⟩,
      ⟨some 5, none, .mov (.t 17)⟩,
      ⟨some 6, none, .mov (.t 18)⟩,
      ⟨some 7, none, .mov (.t 19)⟩])
    (.seq (.seq (.region [⟨some 20, none, .mov (.t 7)⟩,
      ⟨some 21, none, .bin false .neq (.t 20) (.c (.int .i64 0))⟩])
    (.cond (.t 21) (.seq (.region [⟨some 22, none, .mov (.t 5)⟩,
      ⟨some 23, none, .len false (.t 22)⟩,
      ⟨some 24, none, .bin false .eql (.t 23) (.c (.int .i64 0))⟩,
      ⟨some 25, none, .mov (.t 24)⟩,
      ⟨some 26, some (25, true), .mov (.t 6)⟩,
      ⟨some 27, some (25, true), .bin false .eql (.t 26) (.c (.int .i64 0))⟩,
      ⟨some 28, none, .pickb (.t 25) (.t 27) (.c (.bool false))⟩,
      ⟨some 4, none, .mov (.t 28)⟩])
    .ret)
    .skip))
    (.seq (.seq (.region [⟨some 29, none, .load 1 true (.t 2)⟩,
      ⟨some 30, none, .call i_cartoucheref7_Good [.t 29]⟩,
      ⟨some 31, none, .un .not (.t 30)⟩,
      ⟨some 32, none, .mov (.t 31)⟩,
      ⟨some 33, some (32, false), .load 1 true (.t 3)⟩,
      ⟨some 34, some (32, false), .call i_cartoucheref7_Good [.t 33]⟩,
      ⟨some 35, some (32, false), .un .not (.t 34)⟩,
      ⟨some 36, none, .pickb (.t 32) (.c (.bool true)) (.t 35)⟩])
    (.cond (.t 36) (.seq (.region [⟨some 4, none, .mov (.c (.bool false))⟩])
    .ret)
    .skip))
    (.seq (.region [⟨some 8, none, .mov (.c (.bool true))⟩])
    (.seq (.seq (.region [⟨some 9, none, .mov (.c (.int .i64 0))⟩])
    (.block 0 (.loop (.seq (.seq (.region [⟨some 37, none, .mov (.t 9)⟩,
      ⟨some 38, none, .fldA 0 1 false (.t 2)⟩,
      ⟨some 39, none, .load 1 false (.t 38)⟩,
      ⟨some 40, none, .len false (.t 39)⟩,
      ⟨some 41, none, .bin false .lss (.t 37) (.t 40)⟩])
    (.cond (.t 41) .skip
    (.exit 0)))
    (.seq (.block 1 (.seq (.draw [1000000, 1000002, 1000004, 1000006] [⟨some 44, none, .load 1 true (.t 3)⟩,
      ⟨some 45, none, .fldA 0 1 false (.t 2)⟩,
      ⟨some 46, none, .load 1 false (.t 45)⟩,
      ⟨some 47, none, .mov (.t 9)⟩,
      ⟨some 48, none, .idxA 6 (.t 46) (.t 47)⟩,
      ⟨some 49, none, .fldA 0 1 false (.t 48)⟩,
      ⟨some 50, none, .load 1 false (.t 49)⟩,
      ⟨some 51, none, .call i_cartoucheref7_Find [.t 44, .t 50]⟩,
      ⟨some 10, none, .mov (.t 51)⟩])
    (.draw [1000006, 1000007, 1000009, 1000011, 1000012, 1000014, 1000016, 1000017] [⟨some 52, none, .mov (.t 8)⟩,
      ⟨some 53, none, .mov (.t 52)⟩,
      ⟨some 54, some (53, true), .mov (.t 10)⟩,
      ⟨some 55, some (53, true), .bin false .geq (.t 54) (.c (.int .i64 0))⟩,
      ⟨some 56, none, .pickb (.t 53) (.t 55) (.c (.bool false))⟩,
      ⟨some 57, none, .mov (.t 56)⟩,
      ⟨some 58, some (57, true), .load 1 true (.t 2)⟩,
      ⟨some 59, some (57, true), .load 1 true (.t 3)⟩,
      ⟨some 60, some (57, true), .fldA 0 1 false (.t 2)⟩,
      ⟨some 61, some (57, true), .load 1 false (.t 60)⟩,
      ⟨some 62, some (57, true), .mov (.t 9)⟩,
      ⟨some 63, some (57, true), .idxA 6 (.t 61) (.t 62)⟩,
      ⟨some 64, some (57, true), .load 6 true (.t 63)⟩,
      ⟨some 65, some (57, true), .fldA 0 1 false (.t 3)⟩,
      ⟨some 66, some (57, true), .load 1 false (.t 65)⟩,
      ⟨some 67, some (57, true), .mov (.t 10)⟩,
      ⟨some 68, some (57, true), .idxA 6 (.t 66) (.t 67)⟩,
      ⟨some 69, some (57, true), .load 6 true (.t 68)⟩,
      ⟨some 70, some (57, true), .call 32 [.t 58, .t 59, .t 64, .t 69]⟩,
      ⟨some 71, none, .pickb (.t 57) (.t 70) (.c (.bool false))⟩,
      ⟨some 8, none, .mov (.t 71)⟩])))
    (.region [⟨some 42, none, .mov (.t 9)⟩,
      ⟨some 43, none, .bin false .add (.t 42) (.c (.int .i64 1))⟩,
      ⟨some 9, none, .mov (.t 43)⟩]))))))
    (.seq (.region [⟨some 72, none, .mov (.t 8)⟩,
      ⟨some 73, none, .mov (.t 6)⟩,
      ⟨some 74, none, .bin false .leq (.t 73) (.c (.int .i64 2))⟩,
      ⟨some 75, none, .bin true .eql (.t 72) (.t 74)⟩,
      ⟨some 76, none, .mov (.t 75)⟩,
      ⟨some 77, some (76, true), .mov (.t 5)⟩,
      ⟨some 78, some (76, true), .len false (.t 77)⟩,
      ⟨some 79, some (76, true), .bin false .eql (.t 78) (.c (.int .i64 0))⟩,
      ⟨some 80, some (76, true), .mov (.t 6)⟩,
      ⟨some 81, some (76, true), .bin false .eql (.t 80) (.c (.int .i64 1))⟩,
      ⟨some 82, some (76, true), .bin true .eql (.t 79) (.t 81)⟩,
      ⟨some 83, none, .pickb (.t 76) (.t 82) (.c (.bool false))⟩,
      ⟨some 4, none, .mov (.t 83)⟩])
    .ret)))))))), [.tmp 4]⟩
theorem T_cartouchelaw18_EvolveAdditive_j : trFn Tryd.prog [(1000012, [1000000, 1000002, 1000004, 1000006]), (1000013, [1000006, 1000007, 1000009, 1000011, 1000012, 1000014, 1000016, 1000017])] Tryd.f7 = some A_cartouchelaw18_EvolveAdditive_j := by kernel_rfl
theorem L_cartouchelaw18_EvolveAdditive_j : 2 ≤ Tryd.f7.ntmps := by decide
theorem F_cartouchelaw18_EvolveAdditive_j : Tryd.prog.funcs[(7 : FuncId)]? = some Tryd.f7 := Tryd.func7
def A_cartouchelaw18_plain_j : AFn := ⟨(.seq (.region [⟨some 4, none, .boxI (.t 0)⟩,
      ⟨some 5, none, .boxI (.t 1)⟩,
      ⟨some 6, none, .boxI (.t 2)⟩,
      ⟨some 7, none, .boxI (.t 3)⟩,
      ⟨some 8, none, .mov (.c (.bool false))⟩])
    (.seq (.seq (.region [⟨some 16, none, .fldA 1 1 false (.t 6)⟩,
      ⟨some 17, none, .load 1 false (.t 16)⟩,
      ⟨some 18, none, .fldA 1 1 false (.t 7)⟩,
      ⟨some 19, none, .load 1 false (.t 18)⟩,
      ⟨some 20, none, .bin true .neq (.t 17) (.t 19)⟩,
      ⟨some 21, none, .mov (.t 20)⟩,
      ⟨some 22, some (21, false), .fldA 4 1 false (.t 6)⟩,
      ⟨some 23, some (21, false), .load 1 false (.t 22)⟩,
      ⟨some 24, some (21, false), .len false (.t 23)⟩,
      ⟨some 25, some (21, false), .fldA 4 1 false (.t 7)⟩,
      ⟨some 26, some (21, false), .load 1 false (.t 25)⟩,
      ⟨some 27, some (21, false), .len false (.t 26)⟩,
      ⟨some 28, some (21, false), .bin false .neq (.t 24) (.t 27)⟩,
      ⟨some 29, none, .pickb (.t 21) (.c (.bool true)) (.t 28)⟩])
    (.cond (.t 29) (.seq (.region [⟨some 8, none, .mov (.c (.bool false))⟩])
    .ret)
    .skip))
    (.seq (.seq (.region [⟨some 9, none, .mov (.c (.int .i64 0))⟩])
    (.block 0 (.loop (.seq (.seq (.region [⟨some 30, none, .mov (.t 9)⟩,
      ⟨some 31, none, .fldA 4 1 false (.t 6)⟩,
      ⟨some 32, none, .load 1 false (.t 31)⟩,
      ⟨some 33, none, .len false (.t 32)⟩,
      ⟨some 34, none, .bin false .lss (.t 30) (.t 33)⟩])
    (.cond (.t 34) .skip
    (.exit 0)))
    (.seq (.block 1 (.seq (.region [⟨some 10, none, .mov (.c (.bool false))⟩])
    (.seq (.seq (.region [⟨some 11, none, .mov (.c (.int .i64 0))⟩])
    (.block 2 (.loop (.seq (.seq (.region [⟨some 37, none, .mov (.t 11)⟩,
      ⟨some 38, none, .fldA 4 1 false (.t 7)⟩,
      ⟨some 39, none, .load 1 false (.t 38)⟩,
      ⟨some 40, none, .len false (.t 39)⟩,
      ⟨some 41, none, .bin false .lss (.t 37) (.t 40)⟩])
    (.cond (.t 41) .skip
    (.exit 2)))
    (.seq (.block 3 (.draw [1000003, 1000005, 1000006, 1000008, 1000010, 1000011, 4000000, 4000001] [⟨some 44, none, .mov (.t 10)⟩,
      ⟨some 45, none, .mov (.t 44)⟩,
      ⟨some 46, some (45, false), .fldA 4 1 false (.t 6)⟩,
      ⟨some 47, some (45, false), .load 1 false (.t 46)⟩,
      ⟨some 48, some (45, false), .mov (.t 9)⟩,
      ⟨some 49, some (45, false), .idxA 2 (.t 47) (.t 48)⟩,
      ⟨some 50, some (45, false), .load 2 true (.t 49)⟩,
      ⟨some 51, some (45, false), .fldA 4 1 false (.t 7)⟩,
      ⟨some 52, some (45, false), .load 1 false (.t 51)⟩,
      ⟨some 53, some (45, false), .mov (.t 11)⟩,
      ⟨some 54, some (45, false), .idxA 2 (.t 52) (.t 53)⟩,
      ⟨some 55, some (45, false), .load 2 true (.t 54)⟩,
      ⟨some 56, some (45, false), .eqs [.str, .int] false (.t 50) (.t 55)⟩,
      ⟨some 57, none, .pickb (.t 45) (.c (.bool true)) (.t 56)⟩,
      ⟨some 10, none, .mov (.t 57)⟩]))
    (.region [⟨some 42, none, .mov (.t 11)⟩,
      ⟨some 43, none, .bin false .add (.t 42) (.c (.int .i64 1))⟩,
      ⟨some 11, none, .mov (.t 43)⟩]))))))
    (.seq (.region [⟨some 58, none, .mov (.t 10)⟩,
      ⟨some 59, none, .un .not (.t 58)⟩])
    (.cond (.t 59) (.seq (.region [⟨some 8, none, .mov (.c (.bool false))⟩])
    .ret)
    .skip)))))
    (.region [⟨some 35, none, .mov (.t 9)⟩,
      ⟨some 36, none, .bin false .add (.t 35) (.c (.int .i64 1))⟩,
      ⟨some 9, none, .mov (.t 36)⟩]))))))
    (.seq (.region [⟨some 12, none, .mov (.c (.int .i64 0))⟩])
    (.seq (.seq (.region [⟨some 13, none, .mov (.c (.int .i64 0))⟩])
    (.block 4 (.loop (.seq (.seq (.region [⟨some 60, none, .mov (.t 13)⟩,
      ⟨some 61, none, .fldA 2 1 false (.t 6)⟩,
      ⟨some 62, none, .load 1 false (.t 61)⟩,
      ⟨some 63, none, .len false (.t 62)⟩,
      ⟨some 64, none, .bin false .lss (.t 60) (.t 63)⟩])
    (.cond (.t 64) .skip
    (.exit 4)))
    (.seq (.block 5 (.seq (.block 6 (.loop (.seq (.seq (.draw [1000002, 1000003, 1000007, 1000009, 1000011, 1000013, 1000015, 1000017, 4000000, 4000001] [⟨some 67, none, .mov (.t 12)⟩,
      ⟨some 68, none, .fldA 2 1 false (.t 7)⟩,
      ⟨some 69, none, .load 1 false (.t 68)⟩,
      ⟨some 70, none, .len false (.t 69)⟩,
      ⟨some 71, none, .bin false .lss (.t 67) (.t 70)⟩,
      ⟨some 72, none, .mov (.t 71)⟩,
      ⟨some 73, some (72, true), .fldA 2 1 false (.t 7)⟩,
      ⟨some 74, some (72, true), .load 1 false (.t 73)⟩,
      ⟨some 75, some (72, true), .mov (.t 12)⟩,
      ⟨some 76, some (72, true), .idxA 7 (.t 74) (.t 75)⟩,
      ⟨some 77, some (72, true), .fldA 1 1 false (.t 76)⟩,
      ⟨some 78, some (72, true), .load 1 false (.t 77)⟩,
      ⟨some 79, some (72, true), .fldA 2 1 false (.t 6)⟩,
      ⟨some 80, some (72, true), .load 1 false (.t 79)⟩,
      ⟨some 81, some (72, true), .mov (.t 13)⟩,
      ⟨some 82, some (72, true), .idxA 7 (.t 80) (.t 81)⟩,
      ⟨some 83, some (72, true), .fldA 1 1 false (.t 82)⟩,
      ⟨some 84, some (72, true), .load 1 false (.t 83)⟩,
      ⟨some 85, some (72, true), .bin false .lss (.t 78) (.t 84)⟩,
      ⟨some 86, none, .pickb (.t 72) (.t 85) (.c (.bool false))⟩])
    (.cond (.t 86) .skip
    (.exit 6)))
    (.block 7 (.region [⟨some 87, none, .mov (.t 12)⟩,
      ⟨some 88, none, .bin false .add (.t 87) (.c (.int .i64 1))⟩,
      ⟨some 12, none, .mov (.t 88)⟩])))))
    (.seq (.seq (.region [⟨some 89, none, .mov (.t 12)⟩,
      ⟨some 90, none, .fldA 2 1 false (.t 7)⟩,
      ⟨some 91, none, .load 1 false (.t 90)⟩,
      ⟨some 92, none, .len false (.t 91)⟩,
      ⟨some 93, none, .bin false .eql (.t 89) (.t 92)⟩])
    (.cond (.t 93) (.seq (.region [⟨some 8, none, .mov (.c (.bool false))⟩])
    .ret)
    .skip))
    (.seq (.region [⟨some 94, none, .fldA 2 1 false (.t 6)⟩,
      ⟨some 95, none, .load 1 false (.t 94)⟩,
      ⟨some 96, none, .mov (.t 13)⟩,
      ⟨some 97, none, .idxA 7 (.t 95) (.t 96)⟩,
      ⟨some 98, none, .load 7 true (.t 97)⟩,
      ⟨some 14, none, .alloc 0 [.str ⟨#[]⟩, .int .i64 0, .int .i64 0, .int .i64 0, .int .i64 0, .int .i64 0, .int .i64 0]⟩,
      ⟨none, none, .store 7 (.t 14) (.t 98)⟩])
    (.seq (.region [⟨some 99, none, .fldA 2 1 false (.t 7)⟩,
      ⟨some 100, none, .load 1 false (.t 99)⟩,
      ⟨some 101, none, .mov (.t 12)⟩,
      ⟨some 102, none, .idxA 7 (.t 100) (.t 101)⟩,
      ⟨some 103, none, .load 7 true (.t 102)⟩,
      ⟨some 15, none, .alloc 1 [.str ⟨#[]⟩, .int .i64 0, .int .i64 0, .int .i64 0, .int .i64 0, .int .i64 0, .int .i64 0]⟩,
      ⟨none, none, .store 7 (.t 15) (.t 103)⟩])
    (.seq (.seq (.region [⟨some 104, none, .fldA 1 1 false (.t 14)⟩,
      ⟨some 105, none, .load 1 false (.t 104)⟩,
      ⟨some 106, none, .fldA 1 1 false (.t 15)⟩,
      ⟨some 107, none, .load 1 false (.t 106)⟩,
      ⟨some 108, none, .bin false .neq (.t 105) (.t 107)⟩,
      ⟨some 109, none, .mov (.t 108)⟩,
      ⟨some 110, some (109, false), .fldA 0 1 false (.t 14)⟩,
      ⟨some 111, some (109, false), .load 1 false (.t 110)⟩,
      ⟨some 112, some (109, false), .fldA 0 1 false (.t 15)⟩,
      ⟨some 113, some (109, false), .load 1 false (.t 112)⟩,
      ⟨some 114, some (109, false), .bin false .neq (.t 111) (.t 113)⟩,
      ⟨some 115, none, .pickb (.t 109) (.c (.bool true)) (.t 114)⟩,
      ⟨some 116, none, .mov (.t 115)⟩,
      ⟨some 117, some (116, false), .fldA 2 1 false (.t 14)⟩,
      ⟨some 118, some (116, false), .load 1 false (.t 117)⟩,
      ⟨some 119, some (116, false), .fldA 2 1 false (.t 15)⟩,
      ⟨some 120, some (116, false), .load 1 false (.t 119)⟩,
      ⟨some 121, some (116, false), .bin false .neq (.t 118) (.t 120)⟩,
      ⟨some 122, none, .pickb (.t 116) (.c (.bool true)) (.t 121)⟩,
      ⟨some 123, none, .mov (.t 122)⟩,
      ⟨some 124, some (123, false), .fldA 4 1 false (.t 14)⟩,
      ⟨some 125, some (123, false), .load 1 false (.t 124)⟩,
      ⟨some 126, some (123, false), .fldA 4 1 false (.t 15)⟩,
      ⟨some 127, some (123, false), .load 1 false (.t 126)⟩,
      ⟨some 128, some (123, false), .bin false .neq (.t 125) (.t 127)⟩,
      ⟨some 129, none, .pickb (.t 123) (.c (.bool true)) (.t 128)⟩,
      ⟨some 130, none, .mov (.t 129)⟩,
      ⟨some 131, some (130, false), .fldA 6 1 false (.t 14)⟩,
      ⟨some 132, some (130, false), .load 1 false (.t 131)⟩,
      ⟨some 133, some (130, false), .fldA 6 1 false (.t 15)⟩,
      ⟨some 134, some (130, false), .load 1 false (.t 133)⟩,
      ⟨some 135, some (130, false), .bin false .neq (.t 132) (.t 134)⟩,
      ⟨some 136, none, .pickb (.t 130) (.c (.bool true)) (.t 135)⟩])
    (.cond (.t 136) (.seq (.region [⟨some 8, none, .mov (.c (.bool false))⟩])
    .ret)
    .skip))
    (.seq (.draw [1000001, 1000005, 1000007, 1000008, 1000010, 1000012, 1000014, 1000015, 1000017, 1000022, 1000026, 1000028, 1000029, 1000030, 1000032, 1000034, 1000035, 1000036, 4000000, 4000001] [⟨some 137, none, .fldA 2 1 false (.t 14)⟩,
      ⟨some 138, none, .load 1 false (.t 137)⟩,
      ⟨some 139, none, .bin false .geq (.t 138) (.c (.int .i64 16))⟩,
      ⟨some 140, none, .mov (.t 139)⟩,
      ⟨some 141, some (140, true), .fldA 0 1 false (.t 4)⟩,
      ⟨some 142, some (140, true), .load 1 false (.t 141)⟩,
      ⟨some 143, some (140, true), .fldA 3 1 false (.t 14)⟩,
      ⟨some 144, some (140, true), .load 1 false (.t 143)⟩,
      ⟨some 145, some (140, true), .idxA 6 (.t 142) (.t 144)⟩,
      ⟨some 146, some (140, true), .fldA 0 1 false (.t 145)⟩,
      ⟨some 147, some (140, true), .load 1 false (.t 146)⟩,
      ⟨some 148, some (140, true), .fldA 0 1 false (.t 5)⟩,
      ⟨some 149, some (140, true), .load 1 false (.t 148)⟩,
      ⟨some 150, some (140, true), .fldA 3 1 false (.t 15)⟩,
      ⟨some 151, some (140, true), .load 1 false (.t 150)⟩,
      ⟨some 152, some (140, true), .idxA 6 (.t 149) (.t 151)⟩,
      ⟨some 153, some (140, true), .fldA 0 1 false (.t 152)⟩,
      ⟨some 154, some (140, true), .load 1 false (.t 153)⟩,
      ⟨some 155, some (140, true), .bin false .neq (.t 147) (.t 154)⟩,
      ⟨some 156, none, .pickb (.t 140) (.t 155) (.c (.bool false))⟩,
      ⟨some 157, none, .mov (.t 156)⟩,
      ⟨some 158, some (157, false), .fldA 4 1 false (.t 14)⟩,
      ⟨some 159, some (157, false), .load 1 false (.t 158)⟩,
      ⟨some 160, some (157, false), .bin false .eql (.t 159) (.c (.int .i64 4))⟩,
      ⟨some 161, some (157, false), .mov (.t 160)⟩,
      ⟨some 162, some (161, true), .fldA 3 1 false (.t 6)⟩,
      ⟨some 163, some (161, true), .load 1 false (.t 162)⟩,
      ⟨some 164, some (161, true), .fldA 5 1 false (.t 14)⟩,
      ⟨some 165, some (161, true), .load 1 false (.t 164)⟩,
      ⟨some 166, some (161, true), .idxA 1 (.t 163) (.t 165)⟩,
      ⟨some 167, some (161, true), .load 1 false (.t 166)⟩,
      ⟨some 168, some (161, true), .fldA 3 1 false (.t 7)⟩,
      ⟨some 169, some (161, true), .load 1 false (.t 168)⟩,
      ⟨some 170, some (161, true), .fldA 5 1 false (.t 15)⟩,
      ⟨some 171, some (161, true), .load 1 false (.t 170)⟩,
      ⟨some 172, some (161, true), .idxA 1 (.t 169) (.t 171)⟩,
      ⟨some 173, some (161, true), .load 1 false (.t 172)⟩,
      ⟨some 174, some (161, true), .bin false .neq (.t 167) (.t 173)⟩,
      ⟨some 175, some (157, false), .pickb (.t 161) (.t 174) (.c (.bool false))⟩,
      ⟨some 176, none, .pickb (.t 157) (.c (.bool true)) (.t 175)⟩])
    (.cond (.t 176) (.seq (.region [⟨some 8, none, .mov (.c (.bool false))⟩])
    .ret)
    .skip))))))))
    (.region [⟨some 65, none, .mov (.t 13)⟩,
      ⟨some 66, none, .bin false .add (.t 65) (.c (.int .i64 1))⟩,
      ⟨some 13, none, .mov (.t 66)⟩]))))))
    (.seq (.region [⟨some 177, none, .fldA 5 1 false (.t 6)⟩,
      ⟨some 178, none, .load 1 false (.t 177)⟩,
      ⟨some 179, none, .fldA 5 1 false (.t 7)⟩,
      ⟨some 180, none, .load 1 false (.t 179)⟩,
      ⟨some 181, none, .call 60 [.t 178, .t 180]⟩,
      ⟨some 182, none, .mov (.t 181)⟩,
      ⟨some 183, some (182, true), .fldA 5 1 false (.t 7)⟩,
      ⟨some 184, some (182, true), .load 1 false (.t 183)⟩,
      ⟨some 185, some (182, true), .fldA 5 1 false (.t 6)⟩,
      ⟨some 186, some (182, true), .load 1 false (.t 185)⟩,
      ⟨some 187, some (182, true), .call 60 [.t 184, .t 186]⟩,
      ⟨some 188, none, .pickb (.t 182) (.t 187) (.c (.bool false))⟩,
      ⟨some 8, none, .mov (.t 188)⟩])
    .ret)))))), [.tmp 8]⟩
theorem T_cartouchelaw18_plain_j : trFn Tryd.prog [(21, [0, 0, 0, 0, 0, 1, 0]), (22, [0, 0, 0, 0, 0, 2, 0]), (1000010, [1000003, 1000005, 1000006, 1000008, 1000010, 1000011, 4000000, 4000001]), (1000017, [1000002, 1000003, 1000007, 1000009, 1000011, 1000013, 1000015, 1000017, 4000000, 4000001]), (1000025, [1000001, 1000005, 1000007, 1000008, 1000010, 1000012, 1000014, 1000015, 1000017, 1000022, 1000026, 1000028, 1000029, 1000030, 1000032, 1000034, 1000035, 1000036, 4000000, 4000001])] Tryd.f32 = some A_cartouchelaw18_plain_j := by kernel_rfl
theorem L_cartouchelaw18_plain_j : 4 ≤ Tryd.f32.ntmps := by decide
theorem F_cartouchelaw18_plain_j : Tryd.prog.funcs[(32 : FuncId)]? = some Tryd.f32 := Tryd.func32
def A_cartouchelaw18_numbers_j : AFn := ⟨(.seq (.region [⟨some 4, none, .mov (.c (.bool false))⟩])
    (.seq (.seq (.region [⟨some 5, none, .mov (.c (.int .i64 0))⟩])
    (.block 0 (.loop (.seq (.seq (.region [⟨some 8, none, .mov (.t 5)⟩,
      ⟨some 9, none, .mov (.t 0)⟩,
      ⟨some 10, none, .len false (.t 9)⟩,
      ⟨some 11, none, .bin false .lss (.t 8) (.t 10)⟩])
    (.cond (.t 11) .skip
    (.exit 0)))
    (.seq (.block 1 (.seq (.seq (.region [⟨some 14, none, .mov (.t 1)⟩,
      ⟨some 15, none, .mov (.t 0)⟩,
      ⟨some 16, none, .mov (.t 5)⟩,
      ⟨some 17, none, .idxA 2 (.t 15) (.t 16)⟩,
      ⟨some 18, none, .fldA 0 1 false (.t 17)⟩,
      ⟨some 19, none, .load 1 false (.t 18)⟩,
      ⟨some 20, none, .call 81 [.t 14, .t 19]⟩,
      ⟨some 21, none, .un .not (.t 20)⟩,
      ⟨some 22, none, .mov (.t 21)⟩,
      ⟨some 23, some (22, false), .mov (.t 1)⟩,
      ⟨some 24, some (22, false), .mov (.t 0)⟩,
      ⟨some 25, some (22, false), .mov (.t 5)⟩,
      ⟨some 26, some (22, false), .idxA 2 (.t 24) (.t 25)⟩,
      ⟨some 27, some (22, false), .fldA 1 1 false (.t 26)⟩,
      ⟨some 28, some (22, false), .load 1 false (.t 27)⟩,
      ⟨some 29, some (22, false), .call 81 [.t 23, .t 28]⟩,
      ⟨some 30, some (22, false), .un .not (.t 29)⟩,
      ⟨some 31, none, .pickb (.t 22) (.c (.bool true)) (.t 30)⟩])
    (.cond (.t 31) (.seq (.region [⟨some 4, none, .mov (.c (.bool false))⟩])
    .ret)
    .skip))
    (.seq (.region [⟨some 6, none, .mov (.c (.int .i64 0))⟩])
    (.block 2 (.loop (.seq (.seq (.region [⟨some 32, none, .mov (.t 6)⟩,
      ⟨some 33, none, .mov (.t 1)⟩,
      ⟨some 34, none, .len false (.t 33)⟩,
      ⟨some 35, none, .bin false .lss (.t 32) (.t 34)⟩])
    (.cond (.t 35) .skip
    (.exit 2)))
    (.seq (.block 3 (.seq (.region [⟨some 38, none, .mov (.t 1)⟩,
      ⟨some 39, none, .mov (.t 6)⟩,
      ⟨some 40, none, .idxA 2 (.t 38) (.t 39)⟩,
      ⟨some 41, none, .fldA 1 1 false (.t 40)⟩,
      ⟨some 42, none, .load 1 false (.t 41)⟩,
      ⟨some 43, none, .bin false .add (.t 42) (.c (.int .i64 1))⟩,
      ⟨some 7, none, .mov (.t 43)⟩])
    (.seq (.region [⟨some 44, none, .mov (.t 7)⟩,
      ⟨some 45, none, .mov (.t 0)⟩,
      ⟨some 46, none, .mov (.t 5)⟩,
      ⟨some 47, none, .idxA 2 (.t 45) (.t 46)⟩,
      ⟨some 48, none, .fldA 0 1 false (.t 47)⟩,
      ⟨some 49, none, .load 1 false (.t 48)⟩,
      ⟨some 50, none, .bin false .geq (.t 44) (.t 49)⟩,
      ⟨some 51, none, .mov (.t 50)⟩,
      ⟨some 52, some (51, true), .mov (.t 7)⟩,
      ⟨some 53, some (51, true), .mov (.t 0)⟩,
      ⟨some 54, some (51, true), .mov (.t 5)⟩,
      ⟨some 55, some (51, true), .idxA 2 (.t 53) (.t 54)⟩,
      ⟨some 56, some (51, true), .fldA 1 1 false (.t 55)⟩,
      ⟨some 57, some (51, true), .load 1 false (.t 56)⟩,
      ⟨some 58, some (51, true), .bin false .leq (.t 52) (.t 57)⟩,
      ⟨some 59, none, .pickb (.t 51) (.t 58) (.c (.bool false))⟩,
      ⟨some 60, none, .mov (.t 59)⟩,
      ⟨some 61, some (60, true), .mov (.t 1)⟩,
      ⟨some 62, some (60, true), .mov (.t 7)⟩,
      ⟨some 63, some (60, true), .call 81 [.t 61, .t 62]⟩,
      ⟨some 64, some (60, true), .un .not (.t 63)⟩,
      ⟨some 65, none, .pickb (.t 60) (.t 64) (.c (.bool false))⟩])
    (.cond (.t 65) (.seq (.region [⟨some 4, none, .mov (.c (.bool false))⟩])
    .ret)
    .skip))))
    (.region [⟨some 36, none, .mov (.t 6)⟩,
      ⟨some 37, none, .bin false .add (.t 36) (.c (.int .i64 1))⟩,
      ⟨some 6, none, .mov (.t 37)⟩]))))))))
    (.region [⟨some 12, none, .mov (.t 5)⟩,
      ⟨some 13, none, .bin false .add (.t 12) (.c (.int .i64 1))⟩,
      ⟨some 5, none, .mov (.t 13)⟩]))))))
    (.seq (.region [⟨some 4, none, .mov (.c (.bool true))⟩])
    .ret))), [.tmp 4]⟩
theorem T_cartouchelaw18_numbers_j : trFn Tryd.prog [] Tryd.f60 = some A_cartouchelaw18_numbers_j := by kernel_rfl
theorem L_cartouchelaw18_numbers_j : 2 ≤ Tryd.f60.ntmps := by decide
theorem F_cartouchelaw18_numbers_j : Tryd.prog.funcs[(60 : FuncId)]? = some Tryd.f60 := Tryd.func60
def A_cartouchelaw18_holds_j : AFn := ⟨(.seq (.region [⟨some 4, none, .mov (.c (.bool false))⟩])
    (.seq (.seq (.region [⟨some 5, none, .mov (.c (.int .i64 0))⟩])
    (.block 0 (.loop (.seq (.seq (.region [⟨some 6, none, .mov (.t 5)⟩,
      ⟨some 7, none, .mov (.t 0)⟩,
      ⟨some 8, none, .len false (.t 7)⟩,
      ⟨some 9, none, .bin false .lss (.t 6) (.t 8)⟩])
    (.cond (.t 9) .skip
    (.exit 0)))
    (.seq (.block 1 (.seq (.region [⟨some 12, none, .mov (.t 1)⟩,
      ⟨some 13, none, .mov (.t 0)⟩,
      ⟨some 14, none, .mov (.t 5)⟩,
      ⟨some 15, none, .idxA 2 (.t 13) (.t 14)⟩,
      ⟨some 16, none, .fldA 0 1 false (.t 15)⟩,
      ⟨some 17, none, .load 1 false (.t 16)⟩,
      ⟨some 18, none, .bin false .geq (.t 12) (.t 17)⟩,
      ⟨some 19, none, .mov (.t 18)⟩,
      ⟨some 20, some (19, true), .mov (.t 1)⟩,
      ⟨some 21, some (19, true), .mov (.t 0)⟩,
      ⟨some 22, some (19, true), .mov (.t 5)⟩,
      ⟨some 23, some (19, true), .idxA 2 (.t 21) (.t 22)⟩,
      ⟨some 24, some (19, true), .fldA 1 1 false (.t 23)⟩,
      ⟨some 25, some (19, true), .load 1 false (.t 24)⟩,
      ⟨some 26, some (19, true), .bin false .leq (.t 20) (.t 25)⟩,
      ⟨some 27, none, .pickb (.t 19) (.t 26) (.c (.bool false))⟩])
    (.cond (.t 27) (.seq (.region [⟨some 4, none, .mov (.c (.bool true))⟩])
    .ret)
    .skip)))
    (.region [⟨some 10, none, .mov (.t 5)⟩,
      ⟨some 11, none, .bin false .add (.t 10) (.c (.int .i64 1))⟩,
      ⟨some 5, none, .mov (.t 11)⟩]))))))
    (.seq (.region [⟨some 4, none, .mov (.c (.bool false))⟩])
    .ret))), [.tmp 4]⟩
theorem T_cartouchelaw18_holds_j : trFn Tryd.prog [] Tryd.f81 = some A_cartouchelaw18_holds_j := by kernel_rfl
theorem L_cartouchelaw18_holds_j : 2 ≤ Tryd.f81.ntmps := by decide
theorem F_cartouchelaw18_holds_j : Tryd.prog.funcs[(81 : FuncId)]? = some Tryd.f81 := Tryd.func81
set_option maxHeartbeats 8000000
attribute [-go_sem] Int.not_lt Int.not_le
def holdB (l : List Rng) (n : Int) : Bool := l.any fun r => decide (r.low ≤ n ∧ n ≤ r.high)
def HoI (l : List Rng) (n : Int) (m : Nat) (st : St) : Prop := ∃ j : Nat, lk st.ρ 0 = some (.iv (.slice (l.map encRng))) ∧ lk st.ρ 1 = some (.iv (.int .i64 n)) ∧ lk st.ρ 5 = some (.iv (.int .i64 (j : Int))) ∧ holdB l n = holdB (l.drop j) n ∧ j ≤ l.length ∧ l.length < j + m
theorem holds_fc (l : List Rng) (n : Int) (hl : l.length ≤ 2000000) : FC Tryd.prog 81 [encRs l, .int .i64 n] (· = .bool (holdB l n)) := by
  (refine FC.vc (EnvOk.noneS) F_cartouchelaw18_holds_j T_cartouchelaw18_holds_j L_cartouchelaw18_holds_j ?_; unfold A_cartouchelaw18_holds_j; simp only [args0, List.map_cons, List.map_nil, List.zipIdx_cons, List.zipIdx_nil, Nat.reduceAdd])
  (simp -implicitDefEqProofs +contextual (maxSteps := 8000000) only [go_sem, ↓reduceIte, zn0, zn1, zn2, zn3, zn4, reduceCtorEq, zn5, zi0, zi1, zi2, zi3, zi4, zn6, zn7, zn8, zn9, encRs])
  refine vc_loop (HoI l n) (l.length + 1) ⟨0, by simp [lk], by simp [lk], by simp [lk], rfl, by omega, by omega⟩ ?_
  rintro m st ⟨j, h0, h1, h5, he, g1, g2⟩
  by_cases hj : j < l.length
  · obtain ⟨r, hr⟩ : ∃ r, l[j]? = some r := ⟨l[j], by simp [hj]⟩
    have hmr := get_map (f := encRng) hr
    simp only [encRng] at hmr
    have hw := wrap1 hj (by omega)
    have hlt : (j : Int) < (l.length : Int) := by omega
    have hdr := drop_at hr
    have hall : holdB (l.drop j) n = (decide (r.low ≤ n ∧ n ≤ r.high) || holdB (l.drop (j + 1)) n) := by rw [hdr]; simp [holdB]
    by_cases e1 : r.low ≤ n
    · by_cases e2 : n ≤ r.high
      · (simp -implicitDefEqProofs +contextual (maxSteps := 8000000) only [go_sem, ↓reduceIte, zn0, zn1, zn2, zn3, zn4, reduceCtorEq, zn5, zi0, zi1, zi2, zi3, zi4, zn6, zn7, zn8, zn9, h0, h1, h5, hj, hlt, hmr, hw, e1, e2, forall_eq'])
        rw [he, hall]; simp [e1, e2]
      · (simp -implicitDefEqProofs +contextual (maxSteps := 8000000) only [go_sem, ↓reduceIte, zn0, zn1, zn2, zn3, zn4, reduceCtorEq, zn5, zi0, zi1, zi2, zi3, zi4, zn6, zn7, zn8, zn9, h0, h1, h5, hj, hlt, hmr, hw, e1, e2, forall_eq'])
        exact ⟨m - 1, by omega, j + 1, by simp [lk, h0], by simp [lk, h1], by simp [lk], by rw [he, hall]; simp [e2], by omega, by omega⟩
    · (simp -implicitDefEqProofs +contextual (maxSteps := 8000000) only [go_sem, ↓reduceIte, zn0, zn1, zn2, zn3, zn4, reduceCtorEq, zn5, zi0, zi1, zi2, zi3, zi4, zn6, zn7, zn8, zn9, h0, h1, h5, hj, hlt, hmr, hw, e1, forall_eq'])
      exact ⟨m - 1, by omega, j + 1, by simp [lk, h0], by simp [lk, h1], by simp [lk], by rw [he, hall]; simp [e1], by omega, by omega⟩
  · have hlt : ¬ (j : Int) < (l.length : Int) := by omega
    rw [List.drop_of_length_le (by omega)] at he
    (simp -implicitDefEqProofs +contextual (maxSteps := 8000000) only [go_sem, ↓reduceIte, zn0, zn1, zn2, zn3, zn4, reduceCtorEq, zn5, zi0, zi1, zi2, zi3, zi4, zn6, zn7, zn8, zn9, h0, h1, h5, hj, hlt])
    rw [he]; simp [holdB]
open Classical
noncomputable def g_cartouchelaw18_holds : List IV → Option IV
  | [l_, .int .i64 n] => (match decRs l_ with
    | some l => if l.length ≤ 2000000 then some (.bool (holdB l n)) else none
    | none => none)
  | _ => none
theorem g_cartouchelaw18_holds_is (l : List Rng) (n : Int) : g_cartouchelaw18_holds [encRs l, .int .i64 n] = if l.length ≤ 2000000 then some (.bool (holdB l n)) else none := by
  simp only [g_cartouchelaw18_holds, decRs_enc]
theorem g_cartouchelaw18_holds_ok : ∀ xs r, g_cartouchelaw18_holds xs = some r → FC Tryd.prog 81 xs (· = r) := by
  intro xs r h
  unfold g_cartouchelaw18_holds at h
  split at h
  · rename_i l_ n
    split at h
    · rename_i l hl
      split at h
      · rename_i hpre
        injection h with h; subst h
        have := decRs_enc_inv hl; subst this
        exact holds_fc l n hpre
      · cases h
    · cases h
  · cases h

end Go.Proofs.YtmdkcapbahjipaaDoor.Ag
namespace Go.Proofs.YtmdkcapbahjipaaDoor.Ag
attribute [-go_sem] Int.not_lt Int.not_le
def nb2 (b : List Rng) (r o : Rng) : Bool := !(decide (r.low ≤ o.high + 1 ∧ o.high + 1 ≤ r.high) && !holdB b (o.high + 1))
def nb1 (b : List Rng) (r : Rng) : Bool := holdB b r.low && holdB b r.high && b.all (nb2 b r)
def nbB (a b : List Rng) : Bool := a.all (nb1 b)
noncomputable def envNb : Env := { split := true, fc := [(81, g_cartouchelaw18_holds)] }
theorem envNb_ok : EnvOk Tryd.prog envNb := EnvOk.noneS.addF g_cartouchelaw18_holds_ok
def NbI (a b : List Rng) (m : Nat) (st : St) : Prop := ∃ i : Nat, lk st.ρ 0 = some (.iv (.slice (a.map encRng))) ∧ lk st.ρ 1 = some (.iv (.slice (b.map encRng))) ∧ lk st.ρ 5 = some (.iv (.int .i64 (i : Int))) ∧ nbB a b = nbB (a.drop i) b ∧ i ≤ a.length ∧ a.length < i + m
def NbJ (a b : List Rng) (r : Rng) (i : Nat) (m : Nat) (st : St) : Prop := ∃ k : Nat, lk st.ρ 0 = some (.iv (.slice (a.map encRng))) ∧ lk st.ρ 1 = some (.iv (.slice (b.map encRng))) ∧ lk st.ρ 5 = some (.iv (.int .i64 (i : Int))) ∧ lk st.ρ 6 = some (.iv (.int .i64 (k : Int))) ∧ b.all (nb2 b r) = (b.drop k).all (nb2 b r) ∧ k ≤ b.length ∧ b.length < k + m
theorem law_numbers_fc (a b : List Rng) (hb : HiOk b) (hl : a.length ≤ 2000000) (hm : b.length ≤ 2000000) : FC Tryd.prog 60 [encRs a, encRs b] (· = .bool (nbB a b)) := by
  have hh := fun n => (g_cartouchelaw18_holds_is b n).trans (if_pos hm)
  simp only [encRs] at hh
  (refine FC.vc (envNb_ok) F_cartouchelaw18_numbers_j T_cartouchelaw18_numbers_j L_cartouchelaw18_numbers_j ?_; unfold A_cartouchelaw18_numbers_j; simp only [args0, List.map_cons, List.map_nil, List.zipIdx_cons, List.zipIdx_nil, Nat.reduceAdd])
  (simp -implicitDefEqProofs +contextual (maxSteps := 8000000) only [go_sem, ↓reduceIte, zn0, zn1, zn2, zn3, zn4, reduceCtorEq, zn5, zi0, zi1, zi2, zi3, zi4, zn6, zn7, zn8, zn9, encRs, envNb])
  refine vc_loop (NbI a b) (a.length + 1) ⟨0, by simp [lk], by simp [lk], by simp [lk], rfl, by omega, by omega⟩ ?_
  rintro m st ⟨i, h0, h1, h5, he, g1, g2⟩
  by_cases hi : i < a.length
  · obtain ⟨r, hr⟩ : ∃ r, a[i]? = some r := ⟨a[i], by simp [hi]⟩
    have hmr := get_map (f := encRng) hr
    simp only [encRng] at hmr
    have hw := wrap1 hi (by omega)
    have hlt : (i : Int) < (a.length : Int) := by omega
    have hdr := drop_at hr
    have hall : nbB (a.drop i) b = (nb1 b r && nbB (a.drop (i + 1)) b) := by rw [hdr]; simp [nbB]
    have q1 := hh r.low
    have q2 := hh r.high
    cases e1 : holdB b r.low with
    | false =>
      rw [e1] at q1
      (simp -implicitDefEqProofs +contextual (maxSteps := 8000000) only [go_sem, ↓reduceIte, zn0, zn1, zn2, zn3, zn4, reduceCtorEq, zn5, zi0, zi1, zi2, zi3, zi4, zn6, zn7, zn8, zn9, envNb, h0, h1, h5, hi, hlt, hmr, q1, forall_eq'])
      rw [he, hall]; simp [nb1, e1]
    | true =>
      rw [e1] at q1
      cases e2 : holdB b r.high with
      | false =>
        rw [e2] at q2
        (simp -implicitDefEqProofs +contextual (maxSteps := 8000000) only [go_sem, ↓reduceIte, zn0, zn1, zn2, zn3, zn4, reduceCtorEq, zn5, zi0, zi1, zi2, zi3, zi4, zn6, zn7, zn8, zn9, envNb, h0, h1, h5, hi, hlt, hmr, q1, q2, forall_eq'])
        rw [he, hall]; simp [nb1, e2]
      | true =>
        rw [e2] at q2
        (simp -implicitDefEqProofs +contextual (maxSteps := 8000000) only [go_sem, ↓reduceIte, zn0, zn1, zn2, zn3, zn4, reduceCtorEq, zn5, zi0, zi1, zi2, zi3, zi4, zn6, zn7, zn8, zn9, envNb, h0, h1, h5, hi, hlt, hmr, q1, q2, forall_eq'])
        refine vc_loop (NbJ a b r i) (b.length + 1) ⟨0, by simp [lk, h0], by simp [lk, h1], by simp [lk, h5], by simp [lk], rfl, by omega, by omega⟩ ?_
        clear h0 h1 h5 st
        rintro m2 st ⟨k, h0, h1, h5, h6, hk2, f1, f2⟩
        by_cases hk : k < b.length
        · obtain ⟨o, ho⟩ : ∃ o, b[k]? = some o := ⟨b[k], by simp [hk]⟩
          have hmo := get_map (f := encRng) ho
          simp only [encRng] at hmo
          have hwk := wrap1 hk (by omega)
          have hltk : (k : Int) < (b.length : Int) := by omega
          have hoh := hb o (List.mem_of_getElem? ho)
          have hwo : IntKind.i64.wrap (o.high + 1) = o.high + 1 := wrap_i64 (by omega) (by omega)
          have hdo := drop_at ho
          have hall2 : (b.drop k).all (nb2 b r) = (nb2 b r o && (b.drop (k + 1)).all (nb2 b r)) := by rw [hdo]; simp
          have q3 := hh (o.high + 1)
          by_cases c1 : r.low ≤ o.high + 1
          · by_cases c2 : o.high + 1 ≤ r.high
            · cases e3 : holdB b (o.high + 1) with
              | false =>
                rw [e3] at q3
                have en : nb2 b r o = false := by simp [nb2, c1, c2, e3]
                (simp -implicitDefEqProofs +contextual (maxSteps := 8000000) only [go_sem, ↓reduceIte, zn0, zn1, zn2, zn3, zn4, reduceCtorEq, zn5, zi0, zi1, zi2, zi3, zi4, zn6, zn7, zn8, zn9, envNb, h0, h1, h5, h6, hi, hlt, hmr, hk, hltk, hmo, hwo, c1, c2, q3, forall_eq'])
                rw [he, hall]; simp [nb1, e1, e2, hk2, hall2, en]
              | true =>
                rw [e3] at q3
                have en : nb2 b r o = true := by simp [nb2, e3]
                (simp -implicitDefEqProofs +contextual (maxSteps := 8000000) only [go_sem, ↓reduceIte, zn0, zn1, zn2, zn3, zn4, reduceCtorEq, zn5, zi0, zi1, zi2, zi3, zi4, zn6, zn7, zn8, zn9, envNb, h0, h1, h5, h6, hi, hlt, hmr, hk, hltk, hmo, hwo, hwk, c1, c2, q3, forall_eq'])
                exact ⟨m2 - 1, by omega, k + 1, by simp [lk, h0], by simp [lk, h1], by simp [lk, h5], by simp [lk], by rw [hk2, hall2, en]; simp, by omega, by omega⟩
            · have en : nb2 b r o = true := by simp [nb2, c2]
              (simp -implicitDefEqProofs +contextual (maxSteps := 8000000) only [go_sem, ↓reduceIte, zn0, zn1, zn2, zn3, zn4, reduceCtorEq, zn5, zi0, zi1, zi2, zi3, zi4, zn6, zn7, zn8, zn9, envNb, h0, h1, h5, h6, hi, hlt, hmr, hk, hltk, hmo, hwo, hwk, c1, c2, forall_eq'])
              exact ⟨m2 - 1, by omega, k + 1, by simp [lk, h0], by simp [lk, h1], by simp [lk, h5], by simp [lk], by rw [hk2, hall2, en]; simp, by omega, by omega⟩
          · have en : nb2 b r o = true := by simp [nb2, c1]
            (simp -implicitDefEqProofs +contextual (maxSteps := 8000000) only [go_sem, ↓reduceIte, zn0, zn1, zn2, zn3, zn4, reduceCtorEq, zn5, zi0, zi1, zi2, zi3, zi4, zn6, zn7, zn8, zn9, envNb, h0, h1, h5, h6, hi, hlt, hmr, hk, hltk, hmo, hwo, hwk, c1, forall_eq'])
            exact ⟨m2 - 1, by omega, k + 1, by simp [lk, h0], by simp [lk, h1], by simp [lk, h5], by simp [lk], by rw [hk2, hall2, en]; simp, by omega, by omega⟩
        · have hltk : ¬ (k : Int) < (b.length : Int) := by omega
          rw [List.drop_of_length_le (by omega)] at hk2
          (simp -implicitDefEqProofs +contextual (maxSteps := 8000000) only [go_sem, ↓reduceIte, zn0, zn1, zn2, zn3, zn4, reduceCtorEq, zn5, zi0, zi1, zi2, zi3, zi4, zn6, zn7, zn8, zn9, envNb, h0, h1, h5, h6, hk, hltk, hw])
          exact ⟨m - 1, by omega, i + 1, by simp [lk, h0], by simp [lk, h1], by simp [lk], by rw [he, hall]; simp [nb1, e1, e2, hk2], by omega, by omega⟩
  · have hlt : ¬ (i : Int) < (a.length : Int) := by omega
    rw [List.drop_of_length_le (by omega)] at he
    (simp -implicitDefEqProofs +contextual (maxSteps := 8000000) only [go_sem, ↓reduceIte, zn0, zn1, zn2, zn3, zn4, reduceCtorEq, zn5, zi0, zi1, zi2, zi3, zi4, zn6, zn7, zn8, zn9, envNb, h0, h1, h5, hi, hlt])
    rw [he]; simp [nbB]
open Classical
noncomputable def g_cartouchelaw18_numbers : List IV → Option IV
  | [a_, b_] => (match decRs a_ with
    | some a => (match decRs b_ with
    | some b => if HiOk b ∧ a.length ≤ 2000000 ∧ b.length ≤ 2000000 then some (.bool (nbB a b)) else none
    | none => none)
    | none => none)
  | _ => none
theorem g_cartouchelaw18_numbers_is (a : List Rng) (b : List Rng) : g_cartouchelaw18_numbers [encRs a, encRs b] = if HiOk b ∧ a.length ≤ 2000000 ∧ b.length ≤ 2000000 then some (.bool (nbB a b)) else none := by
  simp only [g_cartouchelaw18_numbers, decRs_enc, decRs_enc]
theorem g_cartouchelaw18_numbers_ok : ∀ xs r, g_cartouchelaw18_numbers xs = some r → FC Tryd.prog 60 xs (· = r) := by
  intro xs r h
  unfold g_cartouchelaw18_numbers at h
  split at h
  · rename_i a_ b_
    split at h
    · rename_i a ha
      split at h
      · rename_i b hb
        split at h
        · rename_i hpre
          injection h with h; subst h
          have := decRs_enc_inv ha; subst this
          have := decRs_enc_inv hb; subst this
          exact law_numbers_fc a b hpre.1 hpre.2.1 hpre.2.2
        · cases h
      · cases h
    · cases h
  · cases h

end Go.Proofs.YtmdkcapbahjipaaDoor.Ag
