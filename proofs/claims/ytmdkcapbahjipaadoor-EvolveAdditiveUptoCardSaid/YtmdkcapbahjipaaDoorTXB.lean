/- Is a type the other one, but for fresh fields? The walk. -/
import Derived.Test.YtmdkcapbahjipaaDoorTXA
import Derived.Test.YtmdkcapbahjipaaDoorTW12
import Derived.Test.YtmdkcapbahjipaaDoorTU6
import Derived.Test.YtmdkcapbahjipaaDoorTM6
import Derived.WideShapes
set_option linter.unusedVariables false
set_option linter.unusedSimpArgs false
set_option maxRecDepth 100000
set_option maxHeartbeats 8000000
open List renaming map_cons → zl0, map_nil → zl1, zipIdx_cons → zl2, zipIdx_nil → zl3
open Nat renaming reduceEqDiff → zn0, reduceAdd → zn1, reduceSub → zn2, reduceLeDiff → zn3, reduceMul → zn4, reduceBEq → zn5, reducePow → zn6, reduceLT → zn7, reduceDiv → zn8, reduceMod → zn9
open Int renaming reduceLT → zi0, reduceLE → zi1, reduceNeg → zi2, reduceEq → zi3, reduceToNat → zi4
namespace Go.Proofs.YtmdkcapbahjipaaDoor.Ag
attribute [-go_sem] Int.not_lt Int.not_le
attribute [-go_sem] vcXG_bool
attribute [-go_sem] nxt
def symE (s q : Sym) : Bool := (s.name.toList == q.name.toList) && (s.num == q.num)
def symsIn (x y : Ty) : Bool := x.syms.all fun s => y.syms.any (symE s)
def skipN (l : List FT) (n : Int) (p : Nat) : Nat := p + ((l.drop p).takeWhile fun g => decide (g.number < n)).length
theorem skipN_go {l : List FT} {n : Int} {p : Nat} {g : FT} (h : l[p]? = some g) (hn : g.number < n) : skipN l n p = skipN l n (p + 1) := by
  unfold skipN
  rw [drop_at h, List.takeWhile_cons]
  simp [hn]; omega
theorem skipN_stop {l : List FT} {n : Int} {p : Nat} {g : FT} (h : l[p]? = some g) (hn : ¬ g.number < n) : skipN l n p = p := by
  unfold skipN
  rw [drop_at h, List.takeWhile_cons]
  simp [hn]
theorem skipN_end {l : List FT} {n : Int} {p : Nat} (h : l.length ≤ p) : skipN l n p = p := by
  unfold skipN
  rw [List.drop_of_length_le h]; rfl
open Classical in
noncomputable def okF (a b : List Ty) (x y : Ty) (f g : FT) : Bool := decide (f.number = g.number ∧ f.name = g.name ∧ f.kind = g.kind ∧ f.label = g.label ∧ f.key = g.key ∧ (16 ≤ f.kind → nameAt a f.ref = nameAt b g.ref) ∧ (f.label = 4 → ooAt x.oneofs f.oneof = ooAt y.oneofs g.oneof))
noncomputable def plF (a b : List Ty) (x y : Ty) : List FT → Nat → Bool
  | [], _ => true
  | f :: fs, p => match y.fields[skipN y.fields f.number p]? with
    | none => false
    | some g => okF a b x y f g && plF a b x y fs (skipN y.fields f.number p)
noncomputable def plainB (a b : List Ty) (x y : Ty) : Bool := (x.enum == y.enum) && (decide (x.syms.length = y.syms.length) && (symsIn x y && (plF a b x y x.fields 0 && (nbB x.rsv y.rsv && nbB y.rsv x.rsv))))
noncomputable def envPl : Env := { split := true, fc := [(60, g_cartouchelaw18_numbers)] }
theorem envPl_ok : EnvOk Tryd.prog envPl := EnvOk.noneS.addF g_cartouchelaw18_numbers_ok
def plC : ACode := sq2 (sq2 A_cartouchelaw18_plain_j.code)
def plL1 : ACode := sq1 (sq2 (sq2 A_cartouchelaw18_plain_j.code))
def plL2 : ACode := sq1 (sq2 (sq2 (sq2 (sq2 A_cartouchelaw18_plain_j.code))))
def plEnd : ACode := sq2 (sq2 (sq2 (sq2 (sq2 A_cartouchelaw18_plain_j.code))))
structure PlS (a b : List Ty) (x y : Ty) (st : St) : Prop where
  p4 : lk st.ρ 4 = some (.iv (.ref (encTable a)))
  p5 : lk st.ρ 5 = some (.iv (.ref (encTable b)))
  p6 : lk st.ρ 6 = some (.iv (.ref (encTy x)))
  p7 : lk st.ρ 7 = some (.iv (.ref (encTy y)))
theorem PlS.keep {a b : List Ty} {x y : Ty} {st st' : St} (h : PlS a b x y st) (h4 : lk st'.ρ 4 = lk st.ρ 4) (h5 : lk st'.ρ 5 = lk st.ρ 5) (h6 : lk st'.ρ 6 = lk st.ρ 6) (h7 : lk st'.ρ 7 = lk st.ρ 7) : PlS a b x y st' := ⟨h4 ▸ h.p4, h5 ▸ h.p5, h6 ▸ h.p6, h7 ▸ h.p7⟩
def PlI (a b : List Ty) (x y : Ty) (m : Nat) (st : St) : Prop := ∃ i : Nat, PlS a b x y st ∧ lk st.ρ 9 = some (.iv (.int .i64 (i : Int))) ∧ symsIn x y = (x.syms.drop i).all (fun s => y.syms.any (symE s)) ∧ i ≤ x.syms.length ∧ x.syms.length < i + m
def PlJ (a b : List Ty) (x y : Ty) (i : Nat) (s : Sym) (m : Nat) (st : St) : Prop := ∃ k : Nat, PlS a b x y st ∧ lk st.ρ 9 = some (.iv (.int .i64 (i : Int))) ∧ lk st.ρ 10 = some (.iv (.bool ((y.syms.take k).any (symE s)))) ∧ lk st.ρ 11 = some (.iv (.int .i64 (k : Int))) ∧ k ≤ y.syms.length ∧ y.syms.length < k + m
section
variable {a b : List Ty} {x y : Ty}
theorem plL1_vc {Q : AEx → St → Prop} {s : St} (h : PlS a b x y s) (hx : x.syms.length ≤ 128) (hy : y.syms.length ≤ 128)
    (hQ : symsIn x y = true → ∀ s', PlS a b x y s' → Q .normal s') (hF : symsIn x y = false → ∀ s', lk s'.ρ 8 = some (.iv (.bool false)) → Q .ret s') : vc envPl plL1 Q s := by
  have p6 := h.p6; have p7 := h.p7
  simp only [encTy] at p6 p7
  simp only [plL1, A_cartouchelaw18_plain_j, sq1, sq2]
  (simp -implicitDefEqProofs +contextual (maxSteps := 8000000) only [go_sem, ↓reduceIte, zn0, zn1, zn2, zn3, zn4, reduceCtorEq, zn5, zi0, zi1, zi2, zi3, zi4, zn6, zn7, zn8, zn9, envPl, p6, p7])
  refine vc_loop (PlI a b x y) (x.syms.length + 1) ⟨0, h.keep (by simp [lk]) (by simp [lk]) (by simp [lk]) (by simp [lk]), by simp [lk], rfl, by omega, by omega⟩ ?_
  clear p6 p7 h s
  rintro m st ⟨i, h, p9, he, g1, g2⟩
  have p6 := h.p6; have p7 := h.p7
  simp only [encTy] at p6 p7
  by_cases hi : i < x.syms.length
  · obtain ⟨s, hs⟩ : ∃ s, x.syms[i]? = some s := ⟨x.syms[i], by simp [hi]⟩
    have hms := get_map (f := encSym) hs
    simp only [encSym] at hms
    have hwi := wrap1 hi (by omega)
    have hlti : (i : Int) < (x.syms.length : Int) := by omega
    have hdr := drop_at hs
    have hall : (x.syms.drop i).all (fun s => y.syms.any (symE s)) = (y.syms.any (symE s) && (x.syms.drop (i + 1)).all (fun s => y.syms.any (symE s))) := by rw [hdr]; simp
    (simp -implicitDefEqProofs +contextual (maxSteps := 8000000) only [go_sem, ↓reduceIte, zn0, zn1, zn2, zn3, zn4, reduceCtorEq, zn5, zi0, zi1, zi2, zi3, zi4, zn6, zn7, zn8, zn9, envPl, p6, p7, p9, hi, hlti])
    refine vc_loop (PlJ a b x y i s) (y.syms.length + 1) ⟨0, h.keep (by simp [lk]) (by simp [lk]) (by simp [lk]) (by simp [lk]), by simp [lk, p9], by simp [lk], by simp [lk], by omega, by omega⟩ ?_
    clear p6 p7 p9 h st
    rintro m2 st ⟨k, h, p9, p10, p11, f1, f2⟩
    have p6 := h.p6; have p7 := h.p7
    simp only [encTy] at p6 p7
    by_cases hk : k < y.syms.length
    · obtain ⟨q, hq⟩ : ∃ q, y.syms[k]? = some q := ⟨y.syms[k], by simp [hk]⟩
      have hmq := get_map (f := encSym) hq
      simp only [encSym] at hmq
      have hwk := wrap1 hk (by omega)
      have hltk : (k : Int) < (y.syms.length : Int) := by omega
      have hap := any_take2 (p := symE s) hq
      cases hb : (y.syms.take k).any (symE s) with
      | true =>
        rw [hb] at p10 hap
        (simp -implicitDefEqProofs +contextual (maxSteps := 8000000) only [go_sem, ↓reduceIte, zn0, zn1, zn2, zn3, zn4, reduceCtorEq, zn5, zi0, zi1, zi2, zi3, zi4, zn6, zn7, zn8, zn9, envPl, vcXG_tt, vcXG_ff, vcXG_tf, vcXG_ft, p6, p7, p9, p10, p11, hi, hlti, hms, hmq, hk, hltk, hwk, forall_eq'])
        exact ⟨m2 - 1, by omega, k + 1, h.keep (by simp [lk]) (by simp [lk]) (by simp [lk]) (by simp [lk]), by simp [lk, p9], by rw [hap]; simp [lk], by simp [lk], by omega, by omega⟩
      | false =>
        rw [hb] at p10 hap
        cases e1 : (s.name.toList == q.name.toList) with
        | false =>
          (simp -implicitDefEqProofs +contextual (maxSteps := 8000000) only [go_sem, ↓reduceIte, zn0, zn1, zn2, zn3, zn4, reduceCtorEq, zn5, zi0, zi1, zi2, zi3, zi4, zn6, zn7, zn8, zn9, envPl, vcXG_tt, vcXG_ff, vcXG_tf, vcXG_ft, p6, p7, p9, p10, p11, hi, hlti, hms, hmq, hk, hltk, hwk, eqs, eqAgg, e1, Bool.false_and, forall_eq'])
          exact ⟨m2 - 1, by omega, k + 1, h.keep (by simp [lk]) (by simp [lk]) (by simp [lk]) (by simp [lk]), by simp [lk, p9], by rw [hap]; simp [lk, symE, e1], by simp [lk], by omega, by omega⟩
        | true =>
          cases e2 : (s.num == q.num) with
          | false =>
            (simp -implicitDefEqProofs +contextual (maxSteps := 8000000) only [go_sem, ↓reduceIte, zn0, zn1, zn2, zn3, zn4, reduceCtorEq, zn5, zi0, zi1, zi2, zi3, zi4, zn6, zn7, zn8, zn9, envPl, vcXG_tt, vcXG_ff, vcXG_tf, vcXG_ft, p6, p7, p9, p10, p11, hi, hlti, hms, hmq, hk, hltk, hwk, eqs, eqAgg, e1, e2, Bool.false_and, Bool.and_false, forall_eq'])
            exact ⟨m2 - 1, by omega, k + 1, h.keep (by simp [lk]) (by simp [lk]) (by simp [lk]) (by simp [lk]), by simp [lk, p9], by rw [hap]; simp [lk, symE, e1, e2], by simp [lk], by omega, by omega⟩
          | true =>
            (simp -implicitDefEqProofs +contextual (maxSteps := 8000000) only [go_sem, ↓reduceIte, zn0, zn1, zn2, zn3, zn4, reduceCtorEq, zn5, zi0, zi1, zi2, zi3, zi4, zn6, zn7, zn8, zn9, envPl, vcXG_tt, vcXG_ff, vcXG_tf, vcXG_ft, p6, p7, p9, p10, p11, hi, hlti, hms, hmq, hk, hltk, hwk, eqs, eqAgg, e1, e2, Bool.true_and, forall_eq'])
            exact ⟨m2 - 1, by omega, k + 1, h.keep (by simp [lk]) (by simp [lk]) (by simp [lk]) (by simp [lk]), by simp [lk, p9], by rw [hap]; simp [lk, symE, e1, e2], by simp [lk], by omega, by omega⟩
    · have hltk : ¬ (k : Int) < (y.syms.length : Int) := by omega
      rw [List.take_of_length_le (l := y.syms) (i := k) (by omega)] at p10
      cases hb : y.syms.any (symE s) with
      | true =>
        rw [hb] at p10 hall
        (simp -implicitDefEqProofs +contextual (maxSteps := 8000000) only [go_sem, ↓reduceIte, zn0, zn1, zn2, zn3, zn4, reduceCtorEq, zn5, zi0, zi1, zi2, zi3, zi4, zn6, zn7, zn8, zn9, envPl, p6, p7, p9, p10, p11, hk, hltk, hwi])
        exact ⟨m - 1, by omega, i + 1, h.keep (by simp [lk]) (by simp [lk]) (by simp [lk]) (by simp [lk]), by simp [lk], by rw [he, hall]; simp, by omega, by omega⟩
      | false =>
        rw [hb] at p10 hall
        (simp -implicitDefEqProofs +contextual (maxSteps := 8000000) only [go_sem, ↓reduceIte, zn0, zn1, zn2, zn3, zn4, reduceCtorEq, zn5, zi0, zi1, zi2, zi3, zi4, zn6, zn7, zn8, zn9, envPl, p6, p7, p9, p10, p11, hk, hltk, hwi])
        exact hF (by rw [he, hall]; simp) _ (by simp [lk])
  · have hlti : ¬ (i : Int) < (x.syms.length : Int) := by omega
    rw [List.drop_of_length_le (by omega)] at he
    (simp -implicitDefEqProofs +contextual (maxSteps := 8000000) only [go_sem, ↓reduceIte, zn0, zn1, zn2, zn3, zn4, reduceCtorEq, zn5, zi0, zi1, zi2, zi3, zi4, zn6, zn7, zn8, zn9, envPl, p6, p7, p9, hi, hlti])
    exact hQ (by rw [he]; rfl) _ (h.keep (by simp [lk]) (by simp [lk]) (by simp [lk]) (by simp [lk]))
end
end Go.Proofs.YtmdkcapbahjipaaDoor.Ag
namespace Go.Proofs.YtmdkcapbahjipaaDoor.Ag
attribute [-go_sem] Int.not_lt Int.not_le
attribute [-go_sem] vcXG_bool
attribute [-go_sem] nxt
def PlF (a b : List Ty) (x y : Ty) (m : Nat) (st : St) : Prop := ∃ i p : Nat, PlS a b x y st ∧ lk st.ρ 13 = some (.iv (.int .i64 (i : Int))) ∧ lk st.ρ 12 = some (.iv (.int .i64 (p : Int))) ∧ plF a b x y x.fields 0 = plF a b x y (x.fields.drop i) p ∧ p ≤ y.fields.length ∧ i ≤ x.fields.length ∧ x.fields.length < i + m
def PlG (a b : List Ty) (x y : Ty) (i p : Nat) (f : FT) (m : Nat) (st : St) : Prop := ∃ q : Nat, PlS a b x y st ∧ lk st.ρ 13 = some (.iv (.int .i64 (i : Int))) ∧ lk st.ρ 12 = some (.iv (.int .i64 (q : Int))) ∧ skipN y.fields f.number p = skipN y.fields f.number q ∧ q ≤ y.fields.length ∧ y.fields.length < q + m
section
variable {a b : List Ty} {x y : Ty}
theorem plL2_vc {Q : AEx → St → Prop} {s : St} (h : PlS a b x y s) (p12 : lk s.ρ 12 = some (.iv (.int .i64 0))) (hx : x.fields.length ≤ 128) (hy : y.fields.length ≤ 128) (hfx : FOk a x) (hfy : FOk b y) (hkx : ∀ f ∈ x.fields, f.kind ≤ 17)
    (hQ : plF a b x y x.fields 0 = true → ∀ s', PlS a b x y s' → Q .normal s') (hF : plF a b x y x.fields 0 = false → ∀ s', lk s'.ρ 8 = some (.iv (.bool false)) → Q .ret s') : vc envPl plL2 Q s := by
  have p6 := h.p6; have p7 := h.p7
  simp only [encTy] at p6 p7
  simp only [plL2, A_cartouchelaw18_plain_j, sq1, sq2]
  (simp -implicitDefEqProofs +contextual (maxSteps := 8000000) only [go_sem, ↓reduceIte, zn0, zn1, zn2, zn3, zn4, reduceCtorEq, zn5, zi0, zi1, zi2, zi3, zi4, zn6, zn7, zn8, zn9, envPl, p6, p7])
  refine vc_loop (PlF a b x y) (x.fields.length + 1) ⟨0, 0, h.keep (by simp [lk]) (by simp [lk]) (by simp [lk]) (by simp [lk]), by simp [lk], by simp [lk, p12], rfl, by omega, by omega, by omega⟩ ?_
  clear p6 p7 p12 h s
  rintro m st ⟨i, p, h, p13, p12, he, gp, g1, g2⟩
  have p6 := h.p6; have p7 := h.p7
  simp only [encTy] at p6 p7
  by_cases hi : i < x.fields.length
  · obtain ⟨f, hf⟩ : ∃ f, x.fields[i]? = some f := ⟨x.fields[i], by simp [hi]⟩
    have hmf := get_map (f := encFT) hf
    simp only [encFT] at hmf
    have hwi := wrap1 hi (by omega)
    have hlti : (i : Int) < (x.fields.length : Int) := by omega
    have hdr := drop_at hf
    have hfm := List.mem_of_getElem? hf
    (simp -implicitDefEqProofs +contextual (maxSteps := 8000000) only [go_sem, ↓reduceIte, zn0, zn1, zn2, zn3, zn4, reduceCtorEq, zn5, zi0, zi1, zi2, zi3, zi4, zn6, zn7, zn8, zn9, envPl, p6, p7, p13, p12, hi, hlti])
    refine vc_loop (PlG a b x y i p f) (y.fields.length + 1) ⟨p, h.keep (by simp [lk]) (by simp [lk]) (by simp [lk]) (by simp [lk]), by simp [lk, p13], by simp [lk, p12], rfl, gp, by omega⟩ ?_
    clear p6 p7 p13 p12 h st
    rintro m2 st ⟨q, h, p13, p12, hsk, f1, f2⟩
    have p4 := h.p4; have p5 := h.p5; have p6 := h.p6; have p7 := h.p7
    simp only [encTy, encTable] at p4 p5 p6 p7
    by_cases hq : q < y.fields.length
    · obtain ⟨g, hg⟩ : ∃ g, y.fields[q]? = some g := ⟨y.fields[q], by simp [hq]⟩
      have hmg := get_map (f := encFT) hg
      simp only [encFT] at hmg
      have hwq := wrap1 hq (by omega)
      have hltq : (q : Int) < (y.fields.length : Int) := by omega
      have hgm := List.mem_of_getElem? hg
      by_cases hn : g.number < f.number
      · (simp -implicitDefEqProofs +contextual (maxSteps := 8000000) only [go_sem, ↓reduceIte, zn0, zn1, zn2, zn3, zn4, reduceCtorEq, zn5, zi0, zi1, zi2, zi3, zi4, zn6, zn7, zn8, zn9, envPl, vcXG_tt, vcXG_ff, vcXG_tf, vcXG_ft, p6, p7, p13, p12, hi, hlti, hmf, hmg, hq, hltq, hwq, hn, forall_eq'])
        exact ⟨m2 - 1, by omega, q + 1, h.keep (by simp [lk]) (by simp [lk]) (by simp [lk]) (by simp [lk]), by simp [lk, p13], by simp [lk], hsk.trans (skipN_go hg hn), by omega, by omega⟩
      · have hst := hsk.trans (skipN_stop hg hn)
        have hnq : ¬ q = y.fields.length := by omega
        have hnqi : ¬ (q : Int) = (y.fields.length : Int) := by omega
        have hpl : plF a b x y (x.fields.drop i) p = (okF a b x y f g && plF a b x y (x.fields.drop (i + 1)) q) := by rw [hdr]; simp only [plF, hst, hg]
        by_cases c1 : f.number = g.number
        · by_cases c2 : f.name = g.name
          · by_cases c3 : f.kind = g.kind
            · by_cases c4 : f.label = g.label
              · by_cases c5 : f.key = g.key
                · have hk17 := hkx f hfm
                  have key : ∀ (A B : Prop), (f.kind = 16 ∨ f.kind = 17 ∨ ¬ 16 ≤ f.kind) → True := fun _ _ _ => trivial
                  by_cases h16 : 16 ≤ g.kind
                  · have hr : f.kind = 16 ∨ f.kind = 17 := by omega
                    obtain ⟨f0, za, hza⟩ := (hfx f hfm).1 hr
                    obtain ⟨g0, zb, hzb⟩ := (hfy g hgm).1 (c3 ▸ hr)
                    have hma := get_map (f := encTy) hza
                    have hmb := get_map (f := encTy) hzb
                    simp only [encTy] at hma hmb
                    have hla : f.ref < (a.length : Int) := by have := (List.getElem?_eq_some_iff.1 hza).1; omega
                    have hlb : g.ref < (b.length : Int) := by have := (List.getElem?_eq_some_iff.1 hzb).1; omega
                    have hna : nameAt a f.ref = za.name := by simp [nameAt, hza]
                    have hnb : nameAt b g.ref = zb.name := by simp [nameAt, hzb]
                    by_cases c6 : za.name = zb.name
                    · by_cases h4 : g.label = 4
                      · obtain ⟨u0, wa, hwa⟩ := (hfx f hfm).2 (c4.trans h4)
                        obtain ⟨v0, wb, hwb⟩ := (hfy g hgm).2 h4
                        have hmwa := get_map (f := IV.str) hwa
                        have hmwb := get_map (f := IV.str) hwb
                        have hlwa : f.oneof < (x.oneofs.length : Int) := by have := (List.getElem?_eq_some_iff.1 hwa).1; omega
                        have hlwb : g.oneof < (y.oneofs.length : Int) := by have := (List.getElem?_eq_some_iff.1 hwb).1; omega
                        have hoa : ooAt x.oneofs f.oneof = wa := by simp [ooAt, hwa]
                        have hob : ooAt y.oneofs g.oneof = wb := by simp [ooAt, hwb]
                        by_cases c7 : wa = wb
                        · have hok : okF a b x y f g = true := by simp [okF, c1, c2, c3, c4, c5, hna, hnb, c6, hoa, hob, c7]
                          (simp -implicitDefEqProofs +contextual (maxSteps := 8000000) only [go_sem, ↓reduceIte, zn0, zn1, zn2, zn3, zn4, reduceCtorEq, zn5, zi0, zi1, zi2, zi3, zi4, zn6, zn7, zn8, zn9, envPl, vcXG_tt, vcXG_ff, vcXG_tf, vcXG_ft, p4, p5, p6, p7, p13, p12, hi, hlti, hmf, hmg, hq, hltq, hn, hnq, hnqi, Int.lt_irrefl, hwi, c1, c2, c3, c4, c5, h16, f0, g0, hla, hlb, hma, hmb, c6, h4, u0, v0, hlwa, hlwb, hmwa, hmwb, c7, forall_eq'])
                          exact ⟨m - 1, by omega, i + 1, q, h.keep (by simp [lk]) (by simp [lk]) (by simp [lk]) (by simp [lk]), by simp [lk], by simp [lk, p12], by rw [he, hpl, hok]; simp, f1, by omega, by omega⟩
                        · (simp -implicitDefEqProofs +contextual (maxSteps := 8000000) only [go_sem, ↓reduceIte, zn0, zn1, zn2, zn3, zn4, reduceCtorEq, zn5, zi0, zi1, zi2, zi3, zi4, zn6, zn7, zn8, zn9, envPl, vcXG_tt, vcXG_ff, vcXG_tf, vcXG_ft, p4, p5, p6, p7, p13, p12, hi, hlti, hmf, hmg, hq, hltq, hn, hnq, hnqi, Int.lt_irrefl, hwi, c1, c2, c3, c4, c5, h16, f0, g0, hla, hlb, hma, hmb, c6, h4, u0, v0, hlwa, hlwb, hmwa, hmwb, c7, forall_eq'])
                          exact hF (by rw [he, hpl]; simp [okF, c4, h4, hoa, hob, c7]) _ (by simp [lk])
                      · have hok : okF a b x y f g = true := by simp [okF, c1, c2, c3, c4, c5, hna, hnb, c6, h4]
                        (simp -implicitDefEqProofs +contextual (maxSteps := 8000000) only [go_sem, ↓reduceIte, zn0, zn1, zn2, zn3, zn4, reduceCtorEq, zn5, zi0, zi1, zi2, zi3, zi4, zn6, zn7, zn8, zn9, envPl, vcXG_tt, vcXG_ff, vcXG_tf, vcXG_ft, p4, p5, p6, p7, p13, p12, hi, hlti, hmf, hmg, hq, hltq, hn, hnq, hnqi, Int.lt_irrefl, hwi, c1, c2, c3, c4, c5, h16, f0, g0, hla, hlb, hma, hmb, c6, h4, forall_eq'])
                        exact ⟨m - 1, by omega, i + 1, q, h.keep (by simp [lk]) (by simp [lk]) (by simp [lk]) (by simp [lk]), by simp [lk], by simp [lk, p12], by rw [he, hpl, hok]; simp, f1, by omega, by omega⟩
                    · (simp -implicitDefEqProofs +contextual (maxSteps := 8000000) only [go_sem, ↓reduceIte, zn0, zn1, zn2, zn3, zn4, reduceCtorEq, zn5, zi0, zi1, zi2, zi3, zi4, zn6, zn7, zn8, zn9, envPl, vcXG_tt, vcXG_ff, vcXG_tf, vcXG_ft, p4, p5, p6, p7, p13, p12, hi, hlti, hmf, hmg, hq, hltq, hn, hnq, hnqi, Int.lt_irrefl, c1, c2, c3, c4, c5, h16, f0, g0, hla, hlb, hma, hmb, c6, forall_eq'])
                      exact hF (by rw [he, hpl]; simp [okF, c3, h16, hna, hnb, c6]) _ (by simp [lk])
                  · by_cases h4 : g.label = 4
                    · obtain ⟨u0, wa, hwa⟩ := (hfx f hfm).2 (c4.trans h4)
                      obtain ⟨v0, wb, hwb⟩ := (hfy g hgm).2 h4
                      have hmwa := get_map (f := IV.str) hwa
                      have hmwb := get_map (f := IV.str) hwb
                      have hlwa : f.oneof < (x.oneofs.length : Int) := by have := (List.getElem?_eq_some_iff.1 hwa).1; omega
                      have hlwb : g.oneof < (y.oneofs.length : Int) := by have := (List.getElem?_eq_some_iff.1 hwb).1; omega
                      have hoa : ooAt x.oneofs f.oneof = wa := by simp [ooAt, hwa]
                      have hob : ooAt y.oneofs g.oneof = wb := by simp [ooAt, hwb]
                      by_cases c7 : wa = wb
                      · have hok : okF a b x y f g = true := by simp [okF, c1, c2, c3, c4, c5, h16, hoa, hob, c7]
                        (simp -implicitDefEqProofs +contextual (maxSteps := 8000000) only [go_sem, ↓reduceIte, zn0, zn1, zn2, zn3, zn4, reduceCtorEq, zn5, zi0, zi1, zi2, zi3, zi4, zn6, zn7, zn8, zn9, envPl, vcXG_tt, vcXG_ff, vcXG_tf, vcXG_ft, p4, p5, p6, p7, p13, p12, hi, hlti, hmf, hmg, hq, hltq, hn, hnq, hnqi, Int.lt_irrefl, hwi, c1, c2, c3, c4, c5, h16, h4, u0, v0, hlwa, hlwb, hmwa, hmwb, c7, forall_eq'])
                        exact ⟨m - 1, by omega, i + 1, q, h.keep (by simp [lk]) (by simp [lk]) (by simp [lk]) (by simp [lk]), by simp [lk], by simp [lk, p12], by rw [he, hpl, hok]; simp, f1, by omega, by omega⟩
                      · (simp -implicitDefEqProofs +contextual (maxSteps := 8000000) only [go_sem, ↓reduceIte, zn0, zn1, zn2, zn3, zn4, reduceCtorEq, zn5, zi0, zi1, zi2, zi3, zi4, zn6, zn7, zn8, zn9, envPl, vcXG_tt, vcXG_ff, vcXG_tf, vcXG_ft, p4, p5, p6, p7, p13, p12, hi, hlti, hmf, hmg, hq, hltq, hn, hnq, hnqi, Int.lt_irrefl, hwi, c1, c2, c3, c4, c5, h16, h4, u0, v0, hlwa, hlwb, hmwa, hmwb, c7, forall_eq'])
                        exact hF (by rw [he, hpl]; simp [okF, c4, h4, hoa, hob, c7]) _ (by simp [lk])
                    · have hok : okF a b x y f g = true := by simp [okF, c1, c2, c3, c4, c5, h16, h4]
                      (simp -implicitDefEqProofs +contextual (maxSteps := 8000000) only [go_sem, ↓reduceIte, zn0, zn1, zn2, zn3, zn4, reduceCtorEq, zn5, zi0, zi1, zi2, zi3, zi4, zn6, zn7, zn8, zn9, envPl, vcXG_tt, vcXG_ff, vcXG_tf, vcXG_ft, p4, p5, p6, p7, p13, p12, hi, hlti, hmf, hmg, hq, hltq, hn, hnq, hnqi, Int.lt_irrefl, hwi, c1, c2, c3, c4, c5, h16, h4, forall_eq'])
                      exact ⟨m - 1, by omega, i + 1, q, h.keep (by simp [lk]) (by simp [lk]) (by simp [lk]) (by simp [lk]), by simp [lk], by simp [lk, p12], by rw [he, hpl, hok]; simp, f1, by omega, by omega⟩
                · (simp -implicitDefEqProofs +contextual (maxSteps := 8000000) only [go_sem, ↓reduceIte, zn0, zn1, zn2, zn3, zn4, reduceCtorEq, zn5, zi0, zi1, zi2, zi3, zi4, zn6, zn7, zn8, zn9, envPl, vcXG_tt, vcXG_ff, vcXG_tf, vcXG_ft, p4, p5, p6, p7, p13, p12, hi, hlti, hmf, hmg, hq, hltq, hn, hnq, hnqi, Int.lt_irrefl, c1, c2, c3, c4, c5, forall_eq'])
                  exact hF (by rw [he, hpl]; simp [okF, c5]) _ (by simp [lk])
              · (simp -implicitDefEqProofs +contextual (maxSteps := 8000000) only [go_sem, ↓reduceIte, zn0, zn1, zn2, zn3, zn4, reduceCtorEq, zn5, zi0, zi1, zi2, zi3, zi4, zn6, zn7, zn8, zn9, envPl, vcXG_tt, vcXG_ff, vcXG_tf, vcXG_ft, p4, p5, p6, p7, p13, p12, hi, hlti, hmf, hmg, hq, hltq, hn, hnq, hnqi, Int.lt_irrefl, c1, c2, c3, c4, forall_eq'])
                exact hF (by rw [he, hpl]; simp [okF, c4]) _ (by simp [lk])
            · (simp -implicitDefEqProofs +contextual (maxSteps := 8000000) only [go_sem, ↓reduceIte, zn0, zn1, zn2, zn3, zn4, reduceCtorEq, zn5, zi0, zi1, zi2, zi3, zi4, zn6, zn7, zn8, zn9, envPl, vcXG_tt, vcXG_ff, vcXG_tf, vcXG_ft, p4, p5, p6, p7, p13, p12, hi, hlti, hmf, hmg, hq, hltq, hn, hnq, hnqi, Int.lt_irrefl, c1, c2, c3, forall_eq'])
              exact hF (by rw [he, hpl]; simp [okF, c3]) _ (by simp [lk])
          · (simp -implicitDefEqProofs +contextual (maxSteps := 8000000) only [go_sem, ↓reduceIte, zn0, zn1, zn2, zn3, zn4, reduceCtorEq, zn5, zi0, zi1, zi2, zi3, zi4, zn6, zn7, zn8, zn9, envPl, vcXG_tt, vcXG_ff, vcXG_tf, vcXG_ft, p4, p5, p6, p7, p13, p12, hi, hlti, hmf, hmg, hq, hltq, hn, hnq, hnqi, Int.lt_irrefl, c1, c2, forall_eq'])
            exact hF (by rw [he, hpl]; simp [okF, c2]) _ (by simp [lk])
        · (simp -implicitDefEqProofs +contextual (maxSteps := 8000000) only [go_sem, ↓reduceIte, zn0, zn1, zn2, zn3, zn4, reduceCtorEq, zn5, zi0, zi1, zi2, zi3, zi4, zn6, zn7, zn8, zn9, envPl, vcXG_tt, vcXG_ff, vcXG_tf, vcXG_ft, p4, p5, p6, p7, p13, p12, hi, hlti, hmf, hmg, hq, hltq, hn, hnq, hnqi, Int.lt_irrefl, c1, forall_eq'])
          exact hF (by rw [he, hpl]; simp [okF, c1]) _ (by simp [lk])
    · have hqe : q = y.fields.length := by omega
      have hltq : ¬ (q : Int) < (y.fields.length : Int) := by omega
      have hqi : (q : Int) = (y.fields.length : Int) := by omega
      have hpl : plF a b x y (x.fields.drop i) p = false := by rw [hdr]; simp only [plF, hsk.trans (skipN_end (Nat.le_of_eq hqe.symm)), List.getElem?_eq_none (Nat.le_of_eq hqe.symm)]
      subst hqe
      (simp -implicitDefEqProofs +contextual (maxSteps := 8000000) only [go_sem, ↓reduceIte, zn0, zn1, zn2, zn3, zn4, reduceCtorEq, zn5, zi0, zi1, zi2, zi3, zi4, zn6, zn7, zn8, zn9, envPl, vcXG_tt, vcXG_ff, vcXG_tf, vcXG_ft, p6, p7, p13, p12, hi, hlti, hltq, Int.lt_irrefl, Nat.lt_irrefl])
      exact hF (by rw [he, hpl]) _ (by simp [lk])
  · have hlti : ¬ (i : Int) < (x.fields.length : Int) := by omega
    rw [List.drop_of_length_le (by omega)] at he
    (simp -implicitDefEqProofs +contextual (maxSteps := 8000000) only [go_sem, ↓reduceIte, zn0, zn1, zn2, zn3, zn4, reduceCtorEq, zn5, zi0, zi1, zi2, zi3, zi4, zn6, zn7, zn8, zn9, envPl, p6, p7, p13, p12, hi, hlti])
    exact hQ (by rw [he]; rfl) _ (h.keep (by simp [lk]) (by simp [lk]) (by simp [lk]) (by simp [lk]))
end
structure PlOk (a b : List Ty) (x y : Ty) : Prop where
  sx : x.syms.length ≤ 128
  sy : y.syms.length ≤ 128
  lx : x.fields.length ≤ 128
  ly : y.fields.length ≤ 128
  fx : FOk a x
  fy : FOk b y
  kx : ∀ f ∈ x.fields, f.kind ≤ 17
  rx : x.rsv.length ≤ 2000000
  ry : y.rsv.length ≤ 2000000
  hx : HiOk x.rsv
  hy : HiOk y.rsv
theorem plain_fc (a b : List Ty) (x y : Ty) (ok : PlOk a b x y) : FC Tryd.prog 32 [encTable a, encTable b, encTy x, encTy y] (· = .bool (plainB a b x y)) := by
  have n1 := (g_cartouchelaw18_numbers_is x.rsv y.rsv).trans (if_pos ⟨ok.hy, ok.rx, ok.ry⟩)
  have n2 := (g_cartouchelaw18_numbers_is y.rsv x.rsv).trans (if_pos ⟨ok.hx, ok.ry, ok.rx⟩)
  simp only [encRs] at n1 n2
  refine FC.vc envPl_ok F_cartouchelaw18_plain_j T_cartouchelaw18_plain_j L_cartouchelaw18_plain_j ?_
  rw [show A_cartouchelaw18_plain_j.code = .seq (sq1 A_cartouchelaw18_plain_j.code) (.seq (sq1 (sq2 A_cartouchelaw18_plain_j.code)) (.seq plL1 (.seq (sq1 (sq2 (sq2 (sq2 A_cartouchelaw18_plain_j.code)))) (.seq plL2 plEnd)))) from rfl, show A_cartouchelaw18_plain_j.res = [.tmp 8] from rfl]
  have go : ∀ {r : Bool} {s : St}, lk s.ρ 8 = some (.iv (.bool r)) → plainB a b x y = r → endsFC [.tmp 8] (· = .bool (plainB a b x y)) .ret s := by
    intro r s p8 h
    rw [h]
    (simp -implicitDefEqProofs +contextual (maxSteps := 8000000) only [go_sem, ↓reduceIte, zn0, zn1, zn2, zn3, zn4, reduceCtorEq, zn5, zi0, zi1, zi2, zi3, zi4, zn6, zn7, zn8, zn9, p8])
  have hsx := ok.sx; have hsy := ok.sy
  obtain ⟨xn, xe, xf, xo, xs, xr⟩ := x
  obtain ⟨yn, ye, yf, yo, ys, yr⟩ := y
  dsimp only at n1 n2 hsx hsy
  by_cases hen : xe = ye
  · subst hen
    by_cases hls : xs.length = ys.length
    · have hli : (xs.length : Int) = (ys.length : Int) := by omega
      simp only [A_cartouchelaw18_plain_j, sq1, sq2, args0, zl0, zl1, zl2, zl3, zn1]
      have main : ∀ s, PlS a b ⟨xn, xe, xf, xo, xs, xr⟩ ⟨yn, xe, yf, yo, ys, yr⟩ s → vc envPl (.seq plL1 (.seq (sq1 (sq2 (sq2 (sq2 A_cartouchelaw18_plain_j.code)))) (.seq plL2 plEnd))) (endsFC [.tmp 8] (· = .bool (plainB a b ⟨xn, xe, xf, xo, xs, xr⟩ ⟨yn, xe, yf, yo, ys, yr⟩))) s := by
        intro s h
        simp only [vc_seq]
        refine plL1_vc h hsx hsy ?_ ?_
        · intro hsi s' h
          simp only [thenC_normal, A_cartouchelaw18_plain_j, sq1, sq2]
          have p6 := h.p6; have p7 := h.p7
          (simp -implicitDefEqProofs +contextual (maxSteps := 8000000) only [go_sem, ↓reduceIte, zn0, zn1, zn2, zn3, zn4, reduceCtorEq, zn5, zi0, zi1, zi2, zi3, zi4, zn6, zn7, zn8, zn9, envPl])
          refine plL2_vc (s := _) (h.keep (by simp [lk]) (by simp [lk]) (by simp [lk]) (by simp [lk])) (by simp [lk]) ok.lx ok.ly ok.fx ok.fy ok.kx ?_ ?_
          · intro hpl s' h
            have p6 := h.p6; have p7 := h.p7
            simp only [encTy] at p6 p7
            simp only [thenC_normal, plEnd, A_cartouchelaw18_plain_j, sq2]
            cases e1 : nbB xr yr with
            | false =>
              rw [e1] at n1
              have hr : plainB a b ⟨xn, xe, xf, xo, xs, xr⟩ ⟨yn, xe, yf, yo, ys, yr⟩ = false := by simp [plainB, e1]
              (simp -implicitDefEqProofs +contextual (maxSteps := 8000000) only [go_sem, ↓reduceIte, zn0, zn1, zn2, zn3, zn4, reduceCtorEq, zn5, zi0, zi1, zi2, zi3, zi4, zn6, zn7, zn8, zn9, envPl, p6, p7, n1, hr])
            | true =>
              rw [e1] at n1
              cases e2 : nbB yr xr with
              | false =>
                rw [e2] at n2
                have hr : plainB a b ⟨xn, xe, xf, xo, xs, xr⟩ ⟨yn, xe, yf, yo, ys, yr⟩ = false := by simp [plainB, e2]
                (simp -implicitDefEqProofs +contextual (maxSteps := 8000000) only [go_sem, ↓reduceIte, zn0, zn1, zn2, zn3, zn4, reduceCtorEq, zn5, zi0, zi1, zi2, zi3, zi4, zn6, zn7, zn8, zn9, envPl, p6, p7, n1, n2, hr])
              | true =>
                rw [e2] at n2
                have hr : plainB a b ⟨xn, xe, xf, xo, xs, xr⟩ ⟨yn, xe, yf, yo, ys, yr⟩ = true := by simp [plainB, hls, hsi, hpl, e1, e2]
                (simp -implicitDefEqProofs +contextual (maxSteps := 8000000) only [go_sem, ↓reduceIte, zn0, zn1, zn2, zn3, zn4, reduceCtorEq, zn5, zi0, zi1, zi2, zi3, zi4, zn6, zn7, zn8, zn9, envPl, p6, p7, n1, n2, hr])
          · intro hpl s' p8
            exact go p8 (by simp [plainB, hpl])
        · intro hsi s' p8
          exact go p8 (by simp [plainB, hsi])
      simp only [vc_seq] at main
      cases xe
      · (simp -implicitDefEqProofs +contextual (maxSteps := 8000000) only [go_sem, ↓reduceIte, zn0, zn1, zn2, zn3, zn4, reduceCtorEq, zn5, zi0, zi1, zi2, zi3, zi4, zn6, zn7, zn8, zn9, envPl, encTy, encTable, hls, hli])
        exact main _ ⟨by simp [lk, encTable], by simp [lk, encTable], by simp [lk, encTy], by simp [lk, encTy]⟩
      · (simp -implicitDefEqProofs +contextual (maxSteps := 8000000) only [go_sem, ↓reduceIte, zn0, zn1, zn2, zn3, zn4, reduceCtorEq, zn5, zi0, zi1, zi2, zi3, zi4, zn6, zn7, zn8, zn9, envPl, encTy, encTable, hls, hli])
        exact main _ ⟨by simp [lk, encTable], by simp [lk, encTable], by simp [lk, encTy], by simp [lk, encTy]⟩
    · have hli : ¬ (xs.length : Int) = (ys.length : Int) := by omega
      have hr : plainB a b ⟨xn, xe, xf, xo, xs, xr⟩ ⟨yn, xe, yf, yo, ys, yr⟩ = false := by simp [plainB, hls]
      rw [hr]
      simp only [A_cartouchelaw18_plain_j, sq1, sq2, args0, zl0, zl1, zl2, zl3, zn1]
      cases xe
      · (simp -implicitDefEqProofs +contextual (maxSteps := 8000000) only [go_sem, ↓reduceIte, zn0, zn1, zn2, zn3, zn4, reduceCtorEq, zn5, zi0, zi1, zi2, zi3, zi4, zn6, zn7, zn8, zn9, envPl, encTy, encTable, hls, hli])
      · (simp -implicitDefEqProofs +contextual (maxSteps := 8000000) only [go_sem, ↓reduceIte, zn0, zn1, zn2, zn3, zn4, reduceCtorEq, zn5, zi0, zi1, zi2, zi3, zi4, zn6, zn7, zn8, zn9, envPl, encTy, encTable, hls, hli])
  · have hr : plainB a b ⟨xn, xe, xf, xo, xs, xr⟩ ⟨yn, ye, yf, yo, ys, yr⟩ = false := by simp [plainB, hen]
    rw [hr]
    simp only [A_cartouchelaw18_plain_j, sq1, sq2, args0, zl0, zl1, zl2, zl3, zn1]
    cases xe <;> cases ye
    · exact absurd rfl hen
    · (simp -implicitDefEqProofs +contextual (maxSteps := 8000000) only [go_sem, ↓reduceIte, zn0, zn1, zn2, zn3, zn4, reduceCtorEq, zn5, zi0, zi1, zi2, zi3, zi4, zn6, zn7, zn8, zn9, envPl, encTy, encTable])
    · (simp -implicitDefEqProofs +contextual (maxSteps := 8000000) only [go_sem, ↓reduceIte, zn0, zn1, zn2, zn3, zn4, reduceCtorEq, zn5, zi0, zi1, zi2, zi3, zi4, zn6, zn7, zn8, zn9, envPl, encTy, encTable])
    · exact absurd rfl hen
theorem holdB_iff {l : List Rng} {n : Int} : holdB l n = true ↔ Cov l n := by
  simp only [holdB, List.any_eq_true, decide_eq_true_eq, Cov]
theorem nb1_iff {b : List Rng} {r : Rng} (hr : r.low ≤ r.high) : nb1 b r = true ↔ ∀ n, r.low ≤ n → n ≤ r.high → Cov b n := by
  simp only [nb1, nb2, Bool.and_eq_true, List.all_eq_true, Bool.not_eq_true', Bool.and_eq_false_iff, decide_eq_false_iff_not, holdB_iff, Bool.not_eq_false']
  constructor
  · rintro ⟨⟨h1, h2⟩, h3⟩ n n1 n2
    have key : ∀ (d : Nat) (n : Int), n = r.low + d → n ≤ r.high → Cov b n := by
      intro d
      induction d with
      | zero => intro n hn _; rw [hn, Int.natCast_zero, Int.add_zero]; exact h1
      | succ d ih =>
        intro n hn hle
        obtain ⟨o, ho, o1, o2⟩ := ih (n - 1) (by omega) (by omega)
        by_cases e : n ≤ o.high
        · exact ⟨o, ho, by omega, e⟩
        · have hoe : o.high + 1 = n := by omega
          rcases h3 o ho with h | h
          · exact absurd ⟨by omega, by omega⟩ h
          · rw [← hoe]; exact h
    exact key (n - r.low).toNat n (by omega) n2
  · intro h
    refine ⟨⟨h _ (Int.le_refl _) hr, h _ hr (Int.le_refl _)⟩, fun o ho => ?_⟩
    by_cases e : r.low ≤ o.high + 1 ∧ o.high + 1 ≤ r.high
    · exact .inr (h _ e.1 e.2)
    · exact .inl e
theorem nbB_iff {a b : List Rng} (ha : ∀ r ∈ a, r.low ≤ r.high) : nbB a b = true ↔ ∀ n, Cov a n → Cov b n := by
  simp only [nbB, List.all_eq_true]
  constructor
  · rintro h n ⟨r, hr, h1, h2⟩
    exact (nb1_iff (ha r hr)).1 (h r hr) n h1 h2
  · intro h r hr
    exact (nb1_iff (ha r hr)).2 fun n h1 h2 => h n ⟨r, hr, h1, h2⟩
theorem nums_nb {x y : Ty} (hx : RsvOk x.rsv) (hy : RsvOk y.rsv) : (nbB x.rsv y.rsv = true ∧ nbB y.rsv x.rsv = true) ↔ numsF x.rsv = numsF y.rsv := by
  rw [nbB_iff hx.gap.2, nbB_iff hy.gap.2]
  constructor
  · rintro ⟨h1, h2⟩
    refine eq_iff (numsF_gap hx) (numsF_gap hy) fun n => ?_
    rw [numsF_cov hx, numsF_cov hy]
    exact ⟨h1 n, h2 n⟩
  · intro h
    have h2 : ∀ n, Cov x.rsv n ↔ Cov y.rsv n := fun n => by rw [← numsF_cov hx, ← numsF_cov hy, h]
    exact ⟨fun n => (h2 n).1, fun n => (h2 n).2⟩
theorem nodup_sub_len : ∀ {l m : List Int}, l.Nodup → (∀ n ∈ l, n ∈ m) → l.length ≤ m.length
  | [], m, _, _ => by simp
  | a :: l, m, h, hs => by
    rw [List.nodup_cons] at h
    have h1 : a ∈ m := hs a (List.mem_cons_self ..)
    have h2 := nodup_sub_len (m := m.erase a) h.2 fun n hn => by
      have hne : n ≠ a := fun e => h.1 (e ▸ hn)
      exact (List.mem_erase_of_ne hne).2 (hs n (List.mem_cons_of_mem _ hn))
    rw [List.length_erase_of_mem h1] at h2
    have : 0 < m.length := List.length_pos_of_mem h1
    simp only [List.length_cons]; omega
theorem nodup_sub_eq {l m : List Int} (hl : l.Nodup) (hs : ∀ n ∈ l, n ∈ m) (hlen : m.length ≤ l.length) : ∀ n ∈ m, n ∈ l := by
  intro n hn
  by_cases h : n ∈ l
  · exact h
  · exfalso
    have h2 := nodup_sub_len (m := m.erase n) hl fun k hk => (List.mem_erase_of_ne (fun e : k = n => h (by rw [← e]; exact hk))).2 (hs k hk)
    rw [List.length_erase_of_mem hn] at h2
    have := List.length_pos_of_mem hn
    omega
theorem symE_iff {s q : Sym} : symE s q = true ↔ s.name.toList = q.name.toList ∧ s.num = q.num := by simp [symE]
theorem enum_plain {x y : Ty} (hx : (x.syms.map Sym.num).Nodup) (hy : (y.syms.map Sym.num).Nodup) (hinj : ∀ {a b : ByteArray}, a.toList = b.toList → a = b) :
    (x.syms.length = y.syms.length ∧ symsIn x y = true) ↔ ESame x y := by
  simp only [symsIn, List.all_eq_true, List.any_eq_true, symE_iff]
  constructor
  · rintro ⟨hl, h⟩
    refine ⟨fun s hs => ?_, fun q hq => ?_⟩
    · obtain ⟨q, hq, h1, h2⟩ := h s hs
      exact ⟨q, by rw [h2]; exact syF_self hy hq, (hinj h1).symm⟩
    · have := nodup_sub_eq (m := y.syms.map Sym.num) hx (fun n hn => by
        obtain ⟨s, hs, rfl⟩ := List.mem_map.1 hn
        obtain ⟨q, hq, _, h2⟩ := h s hs
        exact List.mem_map.2 ⟨q, hq, h2.symm⟩) (by simp [hl]) q.num (List.mem_map_of_mem hq)
      obtain ⟨s, hs, e⟩ := List.mem_map.1 this
      exact ⟨s, by rw [← e]; exact syF_self hx hs⟩
  · rintro ⟨h1, h2⟩
    have l1 := nodup_sub_len (m := y.syms.map Sym.num) hx fun n hn => by
      obtain ⟨s, hs, rfl⟩ := List.mem_map.1 hn
      obtain ⟨q, hq, _⟩ := h1 s hs
      exact List.mem_map.2 ⟨q, (syF_num hq).2, (syF_num hq).1⟩
    have l2 := nodup_sub_len (m := x.syms.map Sym.num) hy fun n hn => by
      obtain ⟨q, hq, rfl⟩ := List.mem_map.1 hn
      obtain ⟨s, hs⟩ := h2 q hq
      exact List.mem_map.2 ⟨s, (syF_num hs).2, (syF_num hs).1⟩
    simp only [List.length_map] at l1 l2
    refine ⟨by omega, fun s hs => ?_⟩
    obtain ⟨q, hq, hn⟩ := h1 s hs
    exact ⟨q, (syF_num hq).2, by rw [hn], (syF_num hq).1.symm⟩
theorem okF_iff {a b : List Ty} {x y : Ty} {f g : FT} (hk : f.kind ≤ 17) (hkey : f.label ≠ 5 → f.key = 0) (hkey2 : g.label ≠ 5 → g.key = 0) : okF a b x y f g = true ↔ f.number = g.number ∧ FSame a b x y f g := by
  simp only [okF, decide_eq_true_eq, FSame]
  constructor
  · rintro ⟨h1, h2, h3, h4, h5, h6, h7⟩
    exact ⟨h1, h2, h3, fun h => h6 (by omega), h4, h7, fun _ => h5⟩
  · rintro ⟨h1, h2, h3, h4, h5, h6, h7⟩
    refine ⟨h1, h2, h3, h5, ?_, fun h => h4 (by omega), h6⟩
    by_cases e : f.label = 5
    · exact h7 e
    · rw [hkey e, hkey2 (h5 ▸ e)]
theorem skip_spec {l : List FT} {n : Int} : ∀ (k p : Nat), l.length ≤ p + k → p ≤ skipN l n p ∧ (∀ (i : Nat) (g : FT), p ≤ i → i < skipN l n p → l[i]? = some g → g.number < n) ∧ (∀ g, l[skipN l n p]? = some g → ¬ g.number < n)
  | 0, p, h => by
    rw [skipN_end (by omega)]
    exact ⟨Nat.le_refl _, fun i g h1 h2 => by omega, fun g hg => by rw [List.getElem?_eq_none (by omega)] at hg; cases hg⟩
  | k + 1, p, h => by
    cases hp : l[p]? with
    | none =>
      have hle := List.getElem?_eq_none_iff.1 hp
      rw [skipN_end hle]
      exact ⟨Nat.le_refl _, fun i g h1 h2 => by omega, fun g hg => by rw [hp] at hg; cases hg⟩
    | some g0 =>
      by_cases hn : g0.number < n
      · rw [skipN_go hp hn]
        obtain ⟨h1, h2, h3⟩ := skip_spec (l := l) (n := n) k (p + 1) (by omega)
        refine ⟨by omega, fun i g i1 i2 hg => ?_, h3⟩
        by_cases e : i = p
        · subst e; rw [hp] at hg; injection hg with hg; subst hg; exact hn
        · exact h2 i g (by omega) i2 hg
      · rw [skipN_stop hp hn]
        exact ⟨Nat.le_refl _, fun i g h1 h2 => by omega, fun g hg => by rw [hp] at hg; injection hg with hg; subst hg; exact hn⟩
theorem plF_iff {a b : List Ty} {x y : Ty} (hry : Rising y.fields) (hok : ∀ f ∈ x.fields, ∀ g ∈ y.fields, (okF a b x y f g = true ↔ f.number = g.number ∧ FSame a b x y f g)) :
    ∀ (fs : List FT) (p : Nat), (∀ f ∈ fs, f ∈ x.fields) → fs.Pairwise (fun f g => f.number < g.number) → (∀ f ∈ fs, ∀ (i : Nat) (g : FT), i < p → y.fields[i]? = some g → g.number < f.number) →
      (plF a b x y fs p = true ↔ ∀ f ∈ fs, ∃ g, atF y.fields f.number = some g ∧ FSame a b x y f g)
  | [], p, _, _, _ => by simp [plF]
  | f :: fs, p, hm, hp, hb => by
    rw [List.pairwise_cons] at hp
    obtain ⟨s1, s2, s3⟩ := skip_spec (l := y.fields) (n := f.number) y.fields.length p (by omega)
    have hfm := hm f (List.mem_cons_self ..)
    simp only [plF]
    have below : ∀ (i : Nat) (g : FT), i < skipN y.fields f.number p → y.fields[i]? = some g → g.number < f.number := by
      intro i g hi hg
      by_cases e : p ≤ i
      · exact s2 i g e hi hg
      · exact hb f (List.mem_cons_self ..) i g (by omega) hg
    cases hg : y.fields[skipN y.fields f.number p]? with
    | none =>
      have hle := List.getElem?_eq_none_iff.1 hg
      simp only [Bool.false_eq_true, false_iff]
      intro h
      obtain ⟨g, hg2, _⟩ := h f (List.mem_cons_self ..)
      obtain ⟨e, hgm⟩ := atF_num hg2
      obtain ⟨i, hi⟩ := List.getElem?_of_mem hgm
      have hil := (List.getElem?_eq_some_iff.1 hi).1
      have := below i g (by omega) hi
      omega
    | some g =>
      have hgm := List.mem_of_getElem? hg
      have h3 := s3 g hg
      dsimp only
      rw [Bool.and_eq_true, hok f hfm g hgm]
      have ih := plF_iff hry hok fs (skipN y.fields f.number p) (fun k hk => hm k (List.mem_cons_of_mem _ hk)) hp.2 (fun k hk i r hi hr => by
        have := below i r hi hr
        have := hp.1 k hk
        omega)
      rw [ih]
      simp only [List.mem_cons, forall_eq_or_imp]
      constructor
      · rintro ⟨⟨e, hs⟩, h⟩
        exact ⟨⟨g, by rw [e]; exact atF_self hry hgm, hs⟩, h⟩
      · rintro ⟨⟨r, hr, hs⟩, h⟩
        obtain ⟨e, hrm⟩ := atF_num hr
        obtain ⟨i, hi⟩ := List.getElem?_of_mem hrm
        have hrg : r = g := by
          rcases Nat.lt_trichotomy i (skipN y.fields f.number p) with h1 | h1 | h1
          · have := below i r h1 hi; omega
          · rw [h1, hg] at hi; injection hi with hi; exact hi.symm
          · have := hry _ i g r h1 hg hi; omega
        subst hrg
        exact ⟨⟨e.symm, hs⟩, h⟩
theorem ba_inj {a b : ByteArray} (h : a.toList = b.toList) : a = b := by
  have h2 : a.data.toList = b.data.toList := by rw [← ByteArray.toList_eq, ← ByteArray.toList_eq, h]
  cases a; cases b; simpa using h2
theorem fieldB_key {t : List Ty} {x : Ty} {f : FT} (h : fieldB t x f = true) : f.label ≠ 5 → f.key = 0 := by
  intro hl
  unfold fieldB at h
  simp only [Bool.and_eq_true] at h
  obtain ⟨_, _, _, _, _, h5⟩ := h
  rw [if_neg hl] at h5
  simpa using h5
theorem fieldB_k17 {t : List Ty} {x : Ty} {f : FT} (h : fieldB t x f = true) : f.kind ≤ 17 := by
  unfold fieldB at h
  simp only [Bool.and_eq_true] at h
  have h1 := h.1
  split at h1
  · rename_i hk; omega
  · simp only [decide_eq_true_eq] at h1; exact h1.2.2
theorem msg_fieldB {t : List Ty} {x : Ty} (h : MsgOk t x) {f : FT} (hf : f ∈ x.fields) : fieldB t x f = true := by
  obtain ⟨i, hi⟩ := List.getElem?_of_mem hf
  exact (h.2.2.2.2.2.2.1 i f hi).2.2.2.1
theorem rising_pw {l : List FT} (h : Rising l) : l.Pairwise (fun f g => f.number < g.number) := by
  rw [List.pairwise_iff_getElem]
  intro i j hi hj hij
  exact h i j _ _ hij (List.getElem?_eq_getElem hi) (List.getElem?_eq_getElem hj)
theorem plain_iff {a b : List Ty} (ha : GoodT a) (hb : GoodT b) {x y : Ty} (hx : x ∈ a) (hy : y ∈ b) :
    plainB a b x y = true ↔ x.enum = y.enum ∧ (x.enum = true → ESame x y) ∧ (x.enum = false → MSame a b x y) := by
  unfold plainB
  simp only [Bool.and_eq_true, beq_iff_eq, decide_eq_true_eq]
  by_cases he : x.enum = y.enum
  · simp only [he, true_and]
    cases hyE : y.enum with
    | true =>
      have hxE : x.enum = true := he.trans hyE
      have ex := (good_at ha hx).1 hxE
      have ey := (good_at hb hy).1 hyE
      have hxf : x.fields = [] := List.eq_nil_of_length_eq_zero ex.2.2.2.1
      have hxr : x.rsv = [] := List.eq_nil_of_length_eq_zero ex.2.2.2.2.2.1
      have hyr : y.rsv = [] := List.eq_nil_of_length_eq_zero ey.2.2.2.2.2.1
      have h1 := enum_plain ex.2.2.2.2.2.2.2.2 ey.2.2.2.2.2.2.2.2 (fun h => ba_inj h)
      rw [hxf, hxr, hyr]
      simp only [plF, nbB, List.all_nil, and_true, forall_const, Bool.true_eq_false, false_implies]
      exact h1
    | false =>
      have hxE : x.enum = false := he.trans hyE
      have mx := (good_at ha hx).2 hxE
      have my := (good_at hb hy).2 hyE
      have hxs : x.syms = [] := List.eq_nil_of_length_eq_zero mx.1
      have hys : y.syms = [] := List.eq_nil_of_length_eq_zero my.1
      have hpl := plF_iff (a := a) (b := b) (x := x) (y := y) (msg_rising my) (fun f hf g hg => okF_iff (fieldB_k17 (msg_fieldB mx hf)) (fieldB_key (msg_fieldB mx hf)) (fieldB_key (msg_fieldB my hg))) x.fields 0 (fun f hf => hf) (rising_pw (msg_rising mx)) (fun f hf i g hi => absurd hi (Nat.not_lt_zero _))
      have hn := nums_nb (x := x) (y := y) mx.2.2.2.2.2.1 my.2.2.2.2.2.1
      rw [hxs, hys]
      simp only [symsIn, hxs, List.all_nil, List.length_nil, true_and, Bool.false_eq_true, false_implies, forall_const, MSame]
      rw [hpl, hn]
  · simp [he]
noncomputable def allB (a b : List Ty) (l : List Ty) : Bool := l.all fun x => match fN b x.name with
  | some y => plainB a b x y
  | none => false
theorem allB_iff {a b : List Ty} (ha : GoodT a) (hb : GoodT b) : allB a b a = true ↔ worstN (diffC a b) ≤ 2 := by
  rw [diff_le, allB, List.all_eq_true]
  have h : ∀ x ∈ a, ((match fN b x.name with | some y => plainB a b x y | none => false) = true ↔ TSame a b x) := by
    intro x hx
    unfold TSame
    cases hf : fN b x.name with
    | none => simp
    | some y =>
      simp only [Option.some.injEq, exists_eq_left']
      exact plain_iff ha hb hx (fN_mem hf)
  exact ⟨fun k x hx => (h x hx).1 (k x hx), fun k x hx => (h x hx).2 (k x hx)⟩
theorem good_pl {a b : List Ty} (ha : GoodT a) (hb : GoodT b) {x y : Ty} (hx : x ∈ a) (hy : y ∈ b) : PlOk a b x y := by
  have hx1 := good_at ha hx
  have hy1 := good_at hb hy
  have lens : ∀ {t : List Ty} {z : Ty}, TyOk t z → z.syms.length ≤ 128 ∧ z.fields.length ≤ 128 ∧ z.rsv.length ≤ 2000000 ∧ HiOk z.rsv ∧ FOk t z ∧ ∀ f ∈ z.fields, f.kind ≤ 17 := by
    intro t z h
    cases he : z.enum with
    | true =>
      have e := h.1 he
      have hf : z.fields = [] := List.eq_nil_of_length_eq_zero e.2.2.2.1
      have hr : z.rsv = [] := List.eq_nil_of_length_eq_zero e.2.2.2.2.2.1
      refine ⟨e.2.1, by rw [hf]; simp, by rw [hr]; simp, ?_, ?_, ?_⟩
      · rw [hr]; intro p hp; cases hp
      · rw [FOk, hf]; intro f h; cases h
      · rw [hf]; intro f h; cases h
    | false =>
      have e := h.2 he
      exact ⟨by have := e.1; omega, e.2.1, by have := e.2.2.1; omega, e.2.2.2.2.2.1.hi, msg_fok e, fun f hf => fieldB_k17 (msg_fieldB e hf)⟩
  obtain ⟨a1, a2, a3, a4, a5, a6⟩ := lens hx1
  obtain ⟨b1, b2, b3, b4, b5, b6⟩ := lens hy1
  exact ⟨a1, b1, a2, b2, a5, b5, a6, a3, b3, a4, b4⟩
open Classical in
noncomputable def g_plain18 : List IV → Option IV
  | [a_, b_, x_, y_] => (match decTable a_ with
    | some a => (match decTable b_ with
      | some b => (match decTy x_ with
        | some x => (match decTy y_ with
          | some y => if PlOk a b x y then some (.bool (plainB a b x y)) else none
          | none => none)
        | none => none)
      | none => none)
    | none => none)
  | _ => none
theorem g_plain18_is (a b : List Ty) (x y : Ty) (h : PlOk a b x y) : g_plain18 [encTable a, encTable b, encTy x, encTy y] = some (.bool (plainB a b x y)) := by
  simp only [g_plain18, decTable_enc, decTy_enc]; exact if_pos h
theorem g_plain18_ok : ∀ xs r, g_plain18 xs = some r → FC Tryd.prog 32 xs (· = r) := by
  intro xs r h
  unfold g_plain18 at h
  split at h
  · rename_i a_ b_ x_ y_
    split at h
    · rename_i a ha
      split at h
      · rename_i b hb
        split at h
        · rename_i x hx
          split at h
          · rename_i y hy
            split at h
            · rename_i hp
              injection h with h; subst h
              have := decTable_enc_inv ha; subst this
              have := decTable_enc_inv hb; subst this
              have := decTy_enc_inv hx; subst this
              have := decTy_enc_inv hy; subst this
              exact plain_fc a b x y hp
            · cases h
          · cases h
        · cases h
      · cases h
    · cases h
  · cases h
noncomputable def envL18a : Env := { split := true, fc := [(i_evolve_Diff, g_evolve_Diff), (i_cartouchelaw18_awake, g_awake18), (i_cartoucheref7_Good, g_cartoucheref7_Good), (i_cartoucheref7_Find, g_cartoucheref7_Find), (32, g_plain18)] }
theorem envL18a_ok : EnvOk Tryd.prog envL18a := ((((EnvOk.noneS.addF g_plain18_ok).addF g_cartoucheref7_Find_ok).addF g_cartoucheref7_Good_ok).addF g_awake18_ok).addF g_evolve_Diff_ok
theorem findI_fN2 (t : List Ty) (h : ByteArray) : (fN t h = none ∧ findR t h = .int .i64 (-1)) ∨ ∃ (i : Nat) (y : Ty), t[i]? = some y ∧ fN t h = some y ∧ findR t h = .int .i64 (i : Int) := by
  unfold fN findR findI
  cases e : t.findIdx? (fun y => decide (y.name = h)) with
  | none =>
    left
    rw [List.findIdx?_eq_none_iff] at e
    exact ⟨List.find?_eq_none.2 fun y hy => by simp [e y hy], rfl⟩
  | some i =>
    right
    rw [List.findIdx?_eq_some_iff_getElem] at e
    obtain ⟨h1, h2, h3⟩ := e
    refine ⟨i, t[i], by simp [h1], ?_, rfl⟩
    rw [List.find?_eq_some_iff_getElem]
    exact ⟨h2, i, h1, rfl, fun j hj => by simpa using h3 j hj⟩
theorem diffV_good2 {a b : List Ty} (ha : GoodT a) (hb : GoodT b) : diffV a b = .tup [.slice (outs (diffC a b)), .int .i64 (worstN (diffC a b)), .int .i64 0] := by
  unfold diffV; rw [dec_true ha, dec_true hb, if_pos ⟨rfl, rfl⟩]; rfl
theorem diffV_bad2 {a b : List Ty} (h : ¬ (GoodT a ∧ GoodT b)) : diffV a b = .tup [.slice [], .int .i64 0, .int .i64 18] := by
  unfold diffV; rw [if_neg]; rintro ⟨h1, h2⟩; exact h ⟨dec_iff.1 h1, dec_iff.1 h2⟩
def AdI (a b : List Ty) (L : List Chg) (X : Int) (n : Nat) (st : St) : Prop := ∃ j : Nat, lk st.ρ 2 = some (.iv (.ref (encTable a))) ∧ lk st.ρ 3 = some (.iv (.ref (encTable b))) ∧ lk st.ρ 5 = some (.iv (.slice (outs L))) ∧ lk st.ρ 6 = some (.iv (.int .i64 X)) ∧
  lk st.ρ 8 = some (.iv (.bool (allB a b (a.take j)))) ∧ lk st.ρ 9 = some (.iv (.int .i64 (j : Int))) ∧ j ≤ a.length ∧ a.length < j + n
theorem allB_snoc (a b l : List Ty) (x : Ty) : allB a b (l ++ [x]) = (allB a b l && (match fN b x.name with | some y => plainB a b x y | none => false)) := by
  unfold allB
  rw [List.all_append, List.all_cons, List.all_nil, Bool.and_true] <;> rfl
theorem evolveAdditive_fc (a b : List Ty) (ka : okT a) (kb : okT b) : FC Tryd.prog 7 [encTable a, encTable b] (· = .bool true) := by
  have h1 := (g_evolve_Diff_is a b).trans (if_pos ⟨ka, kb⟩)
  have h2 := (g_cartoucheref7_Good_is a).trans (if_pos ka)
  have h3 := (g_cartoucheref7_Good_is b).trans (if_pos kb)
  have h4 := g_awake18_is
  (refine FC.vc (envL18a_ok) F_cartouchelaw18_EvolveAdditive_j T_cartouchelaw18_EvolveAdditive_j L_cartouchelaw18_EvolveAdditive_j ?_; unfold A_cartouchelaw18_EvolveAdditive_j; simp only [args0, zl0, zl1, zl2, zl3, zn1])
  by_cases hab : GoodT a ∧ GoodT b
  · obtain ⟨ha, hb⟩ := hab
    rw [diffV_good2 ha hb] at h1
    rw [dec_true ha] at h2
    rw [dec_true hb] at h3
    have hAll := allB_iff ha hb
    have hone := worst_nil (l := diffC a b) fun c hc => (diffC_cls hc).1
    simp only [encTable] at h1 h2 h3
    generalize hL : diffC a b = L at h1 hAll hone
    have hol : (outs L).length = L.length := by simp [outs]
    generalize hX : worstN L = X at h1 hAll hone
    (simp -implicitDefEqProofs +contextual (maxSteps := 8000000) only [go_sem, ↓reduceIte, zn0, zn1, zn2, zn3, zn4, reduceCtorEq, zn5, zi0, zi1, zi2, zi3, zi4, zn6, zn7, zn8, zn9, encTable, envL18a, i_evolve_Diff, i_cartouchelaw18_awake, i_cartoucheref7_Good, i_cartoucheref7_Find, h1, h2, h3, h4])
    refine vc_loop (AdI a b L X) (a.length + 1) ⟨0, by simp [lk, encTable], by simp [lk, encTable], by simp [lk], by simp [lk], by simp [lk, allB], by simp [lk], by omega, by omega⟩ ?_
    rintro n st ⟨j, p2, p3, p5, p6, p8, p9, g1, g2⟩
    simp only [encTable] at p2 p3
    have la := ha.1
    have lb := hb.1
    by_cases hj : j < a.length
    · obtain ⟨x, hx⟩ : ∃ x, a[j]? = some x := ⟨a[j], by simp [hj]⟩
      have hmx := get_map (f := encTy) hx
      simp only [encTy] at hmx
      have hw := wrap1 hj (by omega)
      have hlt : (j : Int) < (a.length : Int) := by omega
      have hxm := List.mem_of_getElem? hx
      have et : allB a b (a.take (j + 1)) = (allB a b (a.take j) && (match fN b x.name with | some y => plainB a b x y | none => false)) := by rw [List.take_add_one, hx]; exact allB_snoc _ _ _ _
      have hfd := (g_cartoucheref7_Find_is b x.name).trans (if_pos (by omega))
      simp only [encTable] at hfd
      generalize hv : allB a b (a.take j) = v at p8 et
      rcases findI_fN2 b x.name with ⟨hf, hfr⟩ | ⟨i, y, hy, hf, hfr⟩
      · rw [hfr] at hfd
        rw [hf] at et
        cases v
        · (simp -implicitDefEqProofs +contextual (maxSteps := 8000000) only [go_sem, ↓reduceIte, zn0, zn1, zn2, zn3, zn4, reduceCtorEq, zn5, zi0, zi1, zi2, zi3, zi4, zn6, zn7, zn8, zn9, encTable, envL18a, i_evolve_Diff, i_cartouchelaw18_awake, i_cartoucheref7_Good, i_cartoucheref7_Find, vcXG_tt, vcXG_ff, vcXG_tf, vcXG_ft, p2, p3, p5, p6, p8, p9, hj, hlt, hmx, hw, hfd, forall_eq'])
          exact ⟨n - 1, by omega, j + 1, by simp [lk, p2, encTable], by simp [lk, p3, encTable], by simp [lk, p5], by simp [lk, p6], by rw [et]; simp [lk], by simp [lk], by omega, by omega⟩
        · (simp -implicitDefEqProofs +contextual (maxSteps := 8000000) only [go_sem, ↓reduceIte, zn0, zn1, zn2, zn3, zn4, reduceCtorEq, zn5, zi0, zi1, zi2, zi3, zi4, zn6, zn7, zn8, zn9, encTable, envL18a, i_evolve_Diff, i_cartouchelaw18_awake, i_cartoucheref7_Good, i_cartoucheref7_Find, vcXG_tt, vcXG_ff, vcXG_tf, vcXG_ft, p2, p3, p5, p6, p8, p9, hj, hlt, hmx, hw, hfd, forall_eq'])
          exact ⟨n - 1, by omega, j + 1, by simp [lk, p2, encTable], by simp [lk, p3, encTable], by simp [lk, p5], by simp [lk, p6], by rw [et]; simp [lk], by simp [lk], by omega, by omega⟩
      · rw [hfr] at hfd
        rw [hf] at et
        have hym := fN_mem hf
        have hmy := get_map (f := encTy) hy
        have hi2 := (List.getElem?_eq_some_iff.1 hy).1
        have hlti : (i : Int) < (b.length : Int) := by omega
        have hge : (0 : Int) ≤ (i : Int) := by omega
        have hpl := g_plain18_is a b x y (good_pl ha hb hxm hym)
        simp only [encTy, encTable] at hmy hpl
        cases v
        · (simp -implicitDefEqProofs +contextual (maxSteps := 8000000) only [go_sem, ↓reduceIte, zn0, zn1, zn2, zn3, zn4, reduceCtorEq, zn5, zi0, zi1, zi2, zi3, zi4, zn6, zn7, zn8, zn9, encTable, envL18a, i_evolve_Diff, i_cartouchelaw18_awake, i_cartoucheref7_Good, i_cartoucheref7_Find, vcXG_tt, vcXG_ff, vcXG_tf, vcXG_ft, p2, p3, p5, p6, p8, p9, hj, hlt, hmx, hw, hfd, forall_eq'])
          exact ⟨n - 1, by omega, j + 1, by simp [lk, p2, encTable], by simp [lk, p3, encTable], by simp [lk, p5], by simp [lk, p6], by rw [et]; simp [lk], by simp [lk], by omega, by omega⟩
        · (simp -implicitDefEqProofs +contextual (maxSteps := 8000000) only [go_sem, ↓reduceIte, zn0, zn1, zn2, zn3, zn4, reduceCtorEq, zn5, zi0, zi1, zi2, zi3, zi4, zn6, zn7, zn8, zn9, encTable, envL18a, i_evolve_Diff, i_cartouchelaw18_awake, i_cartoucheref7_Good, i_cartoucheref7_Find, vcXG_tt, vcXG_ff, vcXG_tf, vcXG_ft, p2, p3, p5, p6, p8, p9, hj, hlt, hmx, hmy, hi2, hlti, hge, hpl, hw, hfd, forall_eq'])
          exact ⟨n - 1, by omega, j + 1, by simp [lk, p2, encTable], by simp [lk, p3, encTable], by simp [lk, p5], by simp [lk, p6], by rw [et]; simp [lk], by simp [lk], by omega, by omega⟩
    · have hlt : ¬ (j : Int) < (a.length : Int) := by omega
      rw [List.take_of_length_le (l := a) (i := j) (by omega)] at p8
      by_cases x1 : X = 1
      · have hLn := hone.1 x1
        subst hLn
        subst x1
        have hv := hAll.2 (by decide)
        rw [hv] at p8
        (simp -implicitDefEqProofs +contextual (maxSteps := 8000000) only [go_sem, ↓reduceIte, zn0, zn1, zn2, zn3, zn4, reduceCtorEq, zn5, zi0, zi1, zi2, zi3, zi4, zn6, zn7, zn8, zn9, encTable, envL18a, i_evolve_Diff, i_cartouchelaw18_awake, i_cartoucheref7_Good, i_cartoucheref7_Find, vcXG_tt, vcXG_ff, vcXG_tf, vcXG_ft, p2, p3, p5, p6, p8, p9, hj, hlt])
        rfl
      · have hL0 : ¬ L.length = 0 := fun e => x1 (hone.2 (List.eq_nil_of_length_eq_zero e))
        have hLi : ¬ (L.length : Int) = 0 := by omega
        by_cases x2 : X ≤ 2
        · have hv := hAll.2 x2
          rw [hv] at p8
          (simp -implicitDefEqProofs +contextual (maxSteps := 8000000) only [go_sem, ↓reduceIte, zn0, zn1, zn2, zn3, zn4, reduceCtorEq, zn5, zi0, zi1, zi2, zi3, zi4, zn6, zn7, zn8, zn9, encTable, envL18a, i_evolve_Diff, i_cartouchelaw18_awake, i_cartoucheref7_Good, i_cartoucheref7_Find, vcXG_tt, vcXG_ff, vcXG_tf, vcXG_ft, p2, p3, p5, p6, p8, p9, hj, hlt, hol, hL0, hLi, x1, x2])
        · have hv : allB a b a = false := by
            cases e : allB a b a with
            | false => rfl
            | true => exact absurd (hAll.1 e) x2
          rw [hv] at p8
          (simp -implicitDefEqProofs +contextual (maxSteps := 8000000) only [go_sem, ↓reduceIte, zn0, zn1, zn2, zn3, zn4, reduceCtorEq, zn5, zi0, zi1, zi2, zi3, zi4, zn6, zn7, zn8, zn9, encTable, envL18a, i_evolve_Diff, i_cartouchelaw18_awake, i_cartoucheref7_Good, i_cartoucheref7_Find, vcXG_tt, vcXG_ff, vcXG_tf, vcXG_ft, p2, p3, p5, p6, p8, p9, hj, hlt, hol, hL0, hLi, x1, x2])
  · rw [diffV_bad2 hab] at h1
    simp only [encTable] at h1
    (simp -implicitDefEqProofs +contextual (maxSteps := 8000000) only [go_sem, ↓reduceIte, zn0, zn1, zn2, zn3, zn4, reduceCtorEq, zn5, zi0, zi1, zi2, zi3, zi4, zn6, zn7, zn8, zn9, encTable, envL18a, i_evolve_Diff, i_cartouchelaw18_awake, i_cartoucheref7_Good, i_cartoucheref7_Find, h1, h4])
end Go.Proofs.YtmdkcapbahjipaaDoor.Ag
