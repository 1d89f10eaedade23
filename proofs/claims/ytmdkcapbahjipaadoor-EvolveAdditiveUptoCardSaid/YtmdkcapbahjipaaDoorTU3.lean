/- A field: its kind. -/
import Derived.Test.YtmdkcapbahjipaaDoorTU2
set_option linter.unusedVariables false
set_option linter.unusedSimpArgs false
set_option maxRecDepth 100000
set_option maxHeartbeats 8000000
open Nat renaming reduceEqDiff → zn0, reduceAdd → zn1, reduceSub → zn2, reduceLeDiff → zn3, reduceMul → zn4, reduceBEq → zn5, reducePow → zn6, reduceLT → zn7, reduceDiv → zn8, reduceMod → zn9
open Int renaming reduceLT → zi0, reduceLE → zi1, reduceNeg → zi2, reduceEq → zi3, reduceToNat → zi4
namespace Go.Proofs.YtmdkcapbahjipaaDoor.Ag
attribute [-go_sem] Int.not_lt Int.not_le
attribute [-go_sem] nxt
theorem vcXG_tt (E : Env) (rest : St → Prop) (s : St) (d : Option Nat) (X : List Nat) (op : AOp) (bd rd ex : Bool) : vcXG E rest s d X op true bd rd ex (some (.iv (.bool true))) = vcX1 E rest s d X op bd rd ex := by simp [vcXG]
theorem vcXG_ff (E : Env) (rest : St → Prop) (s : St) (d : Option Nat) (X : List Nat) (op : AOp) (bd rd ex : Bool) : vcXG E rest s d X op false bd rd ex (some (.iv (.bool false))) = vcX1 E rest s d X op bd rd ex := by simp [vcXG]
theorem vcXG_tf (E : Env) (rest : St → Prop) (s : St) (d : Option Nat) (X : List Nat) (op : AOp) (bd rd ex : Bool) : vcXG E rest s d X op true bd rd ex (some (.iv (.bool false))) = rest (s.put d .dead) := by simp [vcXG]
theorem vcXG_ft (E : Env) (rest : St → Prop) (s : St) (d : Option Nat) (X : List Nat) (op : AOp) (bd rd ex : Bool) : vcXG E rest s d X op false bd rd ex (some (.iv (.bool true))) = rest (s.put d .dead) := by simp [vcXG]
attribute [-go_sem] vcXG_bool
section
variable (ta tb : List Ty) (x y : Ty) (f g : FT) (σ : Slots) (v n : Nat) (l cs : List Chg) (Q : AEx → St → Prop) (s : St)
theorem fdB_vc (h : FdS ta tb x y f g σ v n l cs s) (hl : l.length ≤ 2000000000000) (hcs : cs.length ≤ 10) (ho : OutP σ 0 v (tvT ta) (tvT tb) l)
    (hf : (f.kind = 16 ∨ f.kind = 17) → 0 ≤ f.ref ∧ ∃ z, ta[f.ref.toNat]? = some z) (hg : (g.kind = 16 ∨ g.kind = 17) → 0 ≤ g.ref ∧ ∃ z, tb[g.ref.toNat]? = some z)
    (hQ : ∀ s', FdS ta tb x y f g σ v n l (cs ++ fcB ta tb x f g) s' → Q .normal s') : vc envFd fdB Q s := by
  have p5 := h.p5; have p6 := h.p6; have p7 := h.p7; have p8 := h.p8; have p9 := h.p9; have p10 := h.p10; have k82 := h.k82
  simp only [encTy, encFT] at p6 p7 p8 p9
  simp only [fFn] at p10
  obtain ⟨o, hb⟩ := h.out.box
  simp only [tvT] at hb
  have hsz : ((l ++ cs).length + 1) * 40 ≤ 140737488355328 := by rw [List.length_append]; omega
  simp only [fdB, A_evolve_differ_field, sq1, sq2]
  by_cases hk : f.kind = g.kind
  · by_cases hr : f.kind = 16 ∨ f.kind = 17
    · obtain ⟨f0, za, hza⟩ := hf hr
      obtain ⟨g0, zb, hzb⟩ := hg (hk ▸ hr)
      have hma := get_map (f := encTy) hza
      have hmb := get_map (f := encTy) hzb
      simp only [encTy] at hma hmb
      have hla : f.ref < (ta.length : Int) := by have := (List.getElem?_eq_some_iff.1 hza).1; omega
      have hlb : g.ref < (tb.length : Int) := by have := (List.getElem?_eq_some_iff.1 hzb).1; omega
      have hna : nameAt ta f.ref = za.name := by simp [nameAt, hza]
      have hnb : nameAt tb g.ref = zb.name := by simp [nameAt, hzb]
      have hk16 : g.kind = 16 ∨ g.kind = 17 := hk ▸ hr
      by_cases hn : za.name = zb.name
      · rw [show fcB ta tb x f g = [] by simp [fcB, hk, hna, hnb, hn]] at hQ
        rcases hk16 with hk16 | hk16
        all_goals (
          (simp -implicitDefEqProofs +contextual (maxSteps := 8000000) only [go_sem, ↓reduceIte, zn0, zn1, zn2, zn3, zn4, reduceCtorEq, zn5, zi0, zi1, zi2, zi3, zi4, zn6, zn7, zn8, zn9, envFd, vcXG_tt, vcXG_ff, vcXG_tf, vcXG_ft, p5, p8, p9, p10, hk, hk16, k82, hb, f0, g0, hla, hlb, hma, hmb, hn, forall_eq'])
          exact hQ _ (h.keep rfl (by simp [lk]) (by simp [lk]) (by simp [lk]) (by simp [lk]) (by simp [lk]) (by simp [lk])))
      · rw [show fcB ta tb x f g = [⟨4, 8, x.name, f.number⟩] by simp [fcB, hk, hk16, hna, hnb, hn]] at hQ
        rcases hk16 with hk16 | hk16
        all_goals (
          (simp -implicitDefEqProofs +contextual (maxSteps := 8000000) only [go_sem, ↓reduceIte, zn0, zn1, zn2, zn3, zn4, reduceCtorEq, zn5, zi0, zi1, zi2, zi3, zi4, zn6, zn7, zn8, zn9, envFd, vcXG_tt, vcXG_ff, vcXG_tf, vcXG_ft, p5, p8, p9, p10, hk, hk16, k82, hb, f0, g0, hla, hlb, hma, hmb, hn, forall_eq'])
          refine vcEx_mk (fun r σ' => r = .tup [] ∧ σ' = addAll s.σ 0 v (tvT ta) (tvT tb) (l ++ cs) [⟨4, 8, x.name, f.number⟩]) (fadd_gc (4) 8 x f (by decide) h.k82 h.out hsz) ?_
          rintro r σ' ⟨rfl, rfl⟩
          (simp -implicitDefEqProofs +contextual (maxSteps := 8000000) only [go_sem, ↓reduceIte, zn0, zn1, zn2, zn3, zn4, reduceCtorEq, zn5, zi0, zi1, zi2, zi3, zi4, zn6, zn7, zn8, zn9, envFd])
          exact hQ _ (h.next ho _ rfl (by simp [lk]) (by simp [lk]) (by simp [lk]) (by simp [lk]) (by simp [lk]) (by simp [lk])))
    · rw [show fcB ta tb x f g = [] by simp only [fcB, if_pos hk, if_neg (fun h : (f.kind = 16 ∨ f.kind = 17) ∧ _ => hr h.1)]] at hQ
      have h16 : ¬ g.kind = 16 := fun e => hr (.inl (hk.trans e))
      have h17 : ¬ g.kind = 17 := fun e => hr (.inr (hk.trans e))
      (simp -implicitDefEqProofs +contextual (maxSteps := 8000000) only [go_sem, ↓reduceIte, zn0, zn1, zn2, zn3, zn4, reduceCtorEq, zn5, zi0, zi1, zi2, zi3, zi4, zn6, zn7, zn8, zn9, envFd, vcXG_tt, vcXG_ff, vcXG_tf, vcXG_ft, p5, p8, p9, p10, hk, h16, h17])
      exact hQ _ (h.keep rfl (by simp [lk]) (by simp [lk]) (by simp [lk]) (by simp [lk]) (by simp [lk]) (by simp [lk]))
  · rw [show fcB ta tb x f g = [⟨clsN (widerB f.kind g.kind), 8, x.name, f.number⟩] by simp [fcB, hk]] at hQ
    (simp -implicitDefEqProofs +contextual (maxSteps := 8000000) only [go_sem, ↓reduceIte, zn0, zn1, zn2, zn3, zn4, reduceCtorEq, zn5, zi0, zi1, zi2, zi3, zi4, zn6, zn7, zn8, zn9, envFd, vcXG_tt, vcXG_ff, vcXG_tf, vcXG_ft, p5, p8, p9, p10, hk, g_evolve_Wider, g_evolve_class, i_evolve_Wider, i_evolve_class, i_evolve_relabels])
    refine vcEx_mk (fun r σ' => r = .tup [] ∧ σ' = addAll s.σ 0 v (tvT ta) (tvT tb) (l ++ cs) [⟨clsN (widerB f.kind g.kind), 8, x.name, f.number⟩]) (fadd_gc (clsN (widerB f.kind g.kind)) 8 x f (by decide) h.k82 h.out hsz) ?_
    rintro r σ' ⟨rfl, rfl⟩
    (simp -implicitDefEqProofs +contextual (maxSteps := 8000000) only [go_sem, ↓reduceIte, zn0, zn1, zn2, zn3, zn4, reduceCtorEq, zn5, zi0, zi1, zi2, zi3, zi4, zn6, zn7, zn8, zn9, envFd])
    exact hQ _ (h.next ho _ rfl (by simp [lk]) (by simp [lk]) (by simp [lk]) (by simp [lk]) (by simp [lk]) (by simp [lk]))
end
noncomputable def fieldC (ta tb : List Ty) (x y : Ty) (f g : FT) : List Chg := fcA x f g ++ fcB ta tb x f g ++ fcC x y f g
theorem fcA_len (x : Ty) (f g : FT) : (fcA x f g).length ≤ 1 := by unfold fcA; split <;> simp
theorem fcB_len (ta tb : List Ty) (x : Ty) (f g : FT) : (fcB ta tb x f g).length ≤ 1 := by unfold fcB; split; split <;> simp; simp
theorem fcC_len (x y : Ty) (f g : FT) : (fcC x y f g).length ≤ 1 := by unfold fcC; split; split; simp; split <;> simp; simp
theorem fieldC_len (ta tb : List Ty) (x y : Ty) (f g : FT) : (fieldC ta tb x y f g).length ≤ 3 := by
  have h1 := fcA_len x f g
  have h2 := fcB_len ta tb x f g
  have h3 := fcC_len x y f g
  simp only [fieldC, List.length_append]; omega
theorem field_gc (ta tb : List Ty) (x y : Ty) (f g : FT) (σ : Slots) (v : Nat) (l : List Chg) (hl : l.length ≤ 2000000000000) (ho : OutP σ 0 v (tvT ta) (tvT tb) l)
    (hf : (f.kind = 16 ∨ f.kind = 17) → 0 ≤ f.ref ∧ ∃ z, ta[f.ref.toNat]? = some z) (hg : (g.kind = 16 ∨ g.kind = 17) → 0 ≤ g.ref ∧ ∃ z, tb[g.ref.toNat]? = some z)
    (hf4 : f.label = 4 → 0 ≤ f.oneof ∧ ∃ z, x.oneofs[f.oneof.toNat]? = some z) (hg4 : g.label = 4 → 0 ≤ g.oneof ∧ ∃ z, y.oneofs[g.oneof.toNat]? = some z) :
    GC Tryd.prog i_evolve_differ_field [.loc 0 v 0, .iv (encTy x), .iv (encTy y), .iv (encFT f), .iv (encFT g)] σ (fun r σ' => r = .tup [] ∧ SameD dFd σ' (addAll σ 0 v (tvT ta) (tvT tb) l (fieldC ta tb x y f g))) := by
  refine GC.vc envFd_ok F_evolve_differ_field T_evolve_differ_field L_evolve_differ_field ?_
  rw [show A_evolve_differ_field.code = .seq (sq1 A_evolve_differ_field.code) (.seq (sq1 (sq2 A_evolve_differ_field.code)) (.seq fdA (.seq fdB fdC))) from rfl]
  simp only [A_evolve_differ_field, sq1, sq2, args0, List.map_cons, List.map_nil, List.zipIdx_cons, List.zipIdx_nil, Nat.reduceAdd]
  (simp -implicitDefEqProofs +contextual (maxSteps := 8000000) only [go_sem, ↓reduceIte, zn0, zn1, zn2, zn3, zn4, reduceCtorEq, zn5, zi0, zi1, zi2, zi3, zi4, zn6, zn7, zn8, zn9, envFd, encTy, encFT])
  refine fdA_vc ta tb x y f g σ v (nxt σ 82) l [] _ _ ⟨by simp [lk], by simp [lk, encTy], by simp [lk, encTy], by simp [lk, encFT], by simp [lk, encFT], by simp [lk, fFn, encTy, encFT], by simp [lk_upd], ?_, ?_⟩ hl (by simp) ho ?_
  · unfold OutP at ho ⊢
    simpa [lk_upd] using ho
  · exact SameD.up (fun q hq => rfl) (by decide)
  intro s' h
  simp only [thenC_normal, vc_seq]
  have h1 := fcA_len x f g
  have h2 := fcB_len ta tb x f g
  refine fdB_vc ta tb x y f g σ v (nxt σ 82) l _ _ _ h hl (by simp only [List.length_append, List.length_nil]; omega) ho hf hg ?_
  intro s' h
  simp only [thenC_normal, vc_seq]
  refine fdC_vc ta tb x y f g σ v (nxt σ 82) l _ _ _ h hl (by simp only [List.length_append, List.length_nil]; omega) ho hf4 hg4 ?_
  intro s' h
  have := h.same
  simp only [List.nil_append] at this
  simp only [endsGC_normal]
  exact ⟨rfl, this⟩
theorem field_gcD (ta tb : List Ty) (x y : Ty) (f g : FT) (σ : Slots) (v : Nat) (l : List Chg) (hl : l.length ≤ 2000000000000) (ho : OutP σ 0 v (tvT ta) (tvT tb) l)
    (hf : (f.kind = 16 ∨ f.kind = 17) → 0 ≤ f.ref ∧ ∃ z, ta[f.ref.toNat]? = some z) (hg : (g.kind = 16 ∨ g.kind = 17) → 0 ≤ g.ref ∧ ∃ z, tb[g.ref.toNat]? = some z)
    (hf4 : f.label = 4 → 0 ≤ f.oneof ∧ ∃ z, x.oneofs[f.oneof.toNat]? = some z) (hg4 : g.label = 4 → 0 ≤ g.oneof ∧ ∃ z, y.oneofs[g.oneof.toNat]? = some z)
    (hd : ∀ q, dFd q = true → lk σ q = none) (hav : ∀ q n it, lk σ q = some (n, it) → avI dFd it = true) :
    GC Tryd.prog i_evolve_differ_field [.loc 0 v 0, .iv (encTy x), .iv (encTy y), .iv (encFT f), .iv (encFT g)] σ (fun r σ' => r = .tup [] ∧ σ' = addAll σ 0 v (tvT ta) (tvT tb) l (fieldC ta tb x y f g)) :=
  GC.drop dFd (.tup []) _ rfl hd (fun r σ' h => ⟨h.1, fun q => addAll_drop hd (by decide) (by decide) h.2 q⟩) (addAll_av (by decide) hav rfl rfl) (field_gc ta tb x y f g σ v l hl ho hf hg hf4 hg4)
end Go.Proofs.YtmdkcapbahjipaaDoor.Ag
