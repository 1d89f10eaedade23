/- The law EvolveAdditive, for what is of bulk at most 1048576: it returns true, and the input reads as it did. Its row lists package-level variables; none is read on the way. -/
import Derived.Test.YtmdkcapbahjipaaDoorCards
import Derived.Test.YtmdkcapbahjipaaDoorTie
import Derived.Test.YtmdkcapbahjipaaDoorTXB
import Derived.Test.YtmdkcapbahjipaaDoorTOpen
import Derived.WalkKit
import Derived.ProofKit
import Derived.OpenShut
import Derived.ShutString
import Derived.ChangeOld
import Derived.Below
import Derived.SizedLaws
import Derived.JoinedCond
import Derived.Lay
import Derived.Deep.DeepHandedRow
import Derived.SevenTiedAt
set_option linter.unusedVariables false
namespace Go.Proofs.YtmdkcapbahjipaaDoor.evolveAdditiveUpto
open Go.ChangeShapes Go.WideShapes Go.ChangeAt Go.RowKit
open Go.ChangeMaps (open_string shut_string)
theorem own : ownKnob Tryd.prog.godebug = none := by kernel_rfl
theorem laidOut : laidOutB Tryd.prog = true := by kernel_rfl
mutual
theorem bulk_eq {H : Type} : ∀ d : DataW H, Rows.uptoBulk d = Ag.dBulk d
  | .lit l => by cases l <;> simp [Rows.uptoBulk, Ag.dBulk]
  | .nil => by simp [Rows.uptoBulk, Ag.dBulk]
  | .ptr d => by simp [Rows.uptoBulk, Ag.dBulk, bulk_eq d]
  | .slice e r => by simp [Rows.uptoBulk, Ag.dBulk, bulk_eqA e, bulk_eqA r]
  | .agg l => by simp [Rows.uptoBulk, Ag.dBulk, bulk_eqA l]
  | .iface _ d => by simp [Rows.uptoBulk, Ag.dBulk, bulk_eq d]
  | .map l => by simp [Rows.uptoBulk, Ag.dBulk, bulk_eqE l]
  | .held _ => by simp [Rows.uptoBulk, Ag.dBulk]
theorem bulk_eqA {H : Type} : ∀ l : List (DataW H), Rows.uptoBulkAll l = Ag.dBulkAll l
  | [] => by simp [Rows.uptoBulkAll, Ag.dBulkAll]
  | d :: r => by simp [Rows.uptoBulkAll, Ag.dBulkAll, bulk_eq d, bulk_eqA r]
theorem bulk_eqE {H : Type} : ∀ l : List (Lit × DataW H), Rows.uptoBulkEntries l = Ag.dBulkEntries l
  | [] => by simp [Rows.uptoBulkEntries, Ag.dBulkEntries]
  | x :: r => by simp [Rows.uptoBulkEntries, Ag.dBulkEntries, bulk_eqe x, bulk_eqE r]
theorem bulk_eqe {H : Type} : ∀ x : Lit × DataW H, Rows.uptoBulkEntry x = Ag.dBulkEntry x
  | (l, d) => by cases l <;> simp [Rows.uptoBulkEntry, Ag.dBulkEntry, bulk_eq d]
end
set_option maxRecDepth 100000 in
theorem contract (H : Type) (enc : TypeId × Value → H) (W : World) (base : Nat) (args : Array Value) (ds gs : List (DataW H)) (before : List MemPlace)
    (hval : ∀ (j : Nat) t v, Tryd.f7.params[j]? = some t → args[j]? = some v → Value.okWide Tryd.prog W .any base t v)
    (hW : DataW.Whole enc Tryd.prog Tryd.f7.params.toList Rows.evolveAdditiveSpec.vars false W args.toList ds gs before) (hk : Rows.uptoSmall H (ds ++ gs) = true) :
    Calls Tryd.prog 7 args W fun e W' => ∃ v, e = .returned v ∧ Rows.evolveAdditiveSpec.post enc Tryd.prog Tryd.f7 false true false false W args v W' := by
  have hW' := hW
  obtain ⟨p, q, hA0, hV, rfl, hfz, hnd⟩ := hW
  have hA : DataW.TrodAll enc Tryd.prog W 0 (fun _ => true) true Tryd.f7.params.toList args.toList ds p := hA0
  rw [Tryd.params7] at hA hval
  obtain ⟨v0, vs0, d0, ds0, p0, q0, hargs, rfl, rfl, h0, r0⟩ := trodAll_cons hA
  obtain ⟨v1, vs1, d1, ds1, p1, q1, rfl, rfl, rfl, h1, r1⟩ := trodAll_cons r0
  obtain ⟨rfl, rfl, rfl⟩ := trodAll_nil r1
  obtain rfl : args = #[v0, v1] := by cases args; simp_all
  obtain ⟨rfl, rfl⟩ := trodVars_none hV
  have hk2 : Rows.uptoBulkAll [d0, d1] ≤ 1048576 := of_decide_eq_true hk
  simp only [Rows.uptoBulkAll, bulk_eq] at hk2
  have h0b : Ag.dBulk d0 ≤ 1048576 := by omega
  have k0 := h0
  obtain ⟨n0, x0, s0, o0, m0, lt0⟩ := Ag.open_rec Ag.plainT7_ok Tryd.underlying24 (by decide) (hval 0 24 v0 rfl rfl) h0
  obtain ⟨b0, rfl, q0⟩ := Ag.shp_table s0
  have h1b : Ag.dBulk d1 ≤ 1048576 := by omega
  have k1 := h1
  obtain ⟨n1, x1, s1, o1, m1, lt1⟩ := Ag.open_rec Ag.plainT7_ok Tryd.underlying24 (by decide) (hval 1 24 v1 rfl rfl) h1
  obtain ⟨b1, rfl, q1⟩ := Ag.shp_table s1
  have walk := Ag.FC.walks (Ag.evolveAdditive_fc b0 b1 (q0 (by omega)) (q1 (by omega))) W [_, _] ⟨o0, o1, trivial⟩
  refine walk.mono fun e W' ⟨he, bel⟩ => ?_
  subst he
  exact ⟨_, rfl, _, _, _, [], _, [], hW', trodAll_mk1 (shut_bool Tryd.underlying4 _), (trodAll_cons_mk (Below.trod laidOut (by kernel_rfl) (of_decide_eq_true (by kernel_rfl)) k0 bel lt0) (trodAll_cons_mk (Below.trod laidOut (by kernel_rfl) (of_decide_eq_true (by kernel_rfl)) k1 bel lt1) trodAll_mk0)), rfl, bel.frame _, fun h => by cases h⟩
theorem laid_met (os : Os) : laidMet Tryd.prog Rows.evolveAdditiveUptoRow.laid ((World.laidAll Tryd.prog os Rows.evolveAdditiveUptoRow.laid).forCall (fun _ _ => 0) ⟨#[], #[.agg #[.slice none 0 0], .agg #[.slice none 0 0]], []⟩).memory :=
  laidMet_laidAll _ (by kernel_rfl) (by kernel_rfl)
theorem reads (os : Os) {H : Type} (enc : TypeId × Value → H) : ∃ places, DataW.whole enc Tryd.prog ((World.laidAll Tryd.prog os Rows.evolveAdditiveUptoRow.laid).forCall (fun _ _ => 0) ⟨#[], #[.agg #[.slice none 0 0], .agg #[.slice none 0 0]], []⟩).memory Tryd.f7.params.toList Rows.evolveAdditiveSpec.vars false (#[.agg #[.slice none 0 0], .agg #[.slice none 0 0]] : Array Value).toList 8 = some ([.agg [.nil], .agg [.nil]], [], places) :=
  ⟨[], by kernel_rfl⟩
set_option maxRecDepth 100000 in
theorem lifted (os : Os) (started : os.Started) (H : Type) (enc : TypeId × Value → H) (F : Stop.Interp) :
    ReturnsInHanded {} Tryd.checked os 7 .any ((Rows.OpenSpec.upto Rows.evolveAdditiveSpec).preRow enc Tryd.prog Tryd.f7 Rows.evolveAdditiveUptoRow.domain false Rows.evolveAdditiveUptoRow.laid) (((Rows.OpenSpec.upto Rows.evolveAdditiveSpec).at F).post enc Tryd.prog Tryd.f7 false true false false) := by
  obtain ⟨places, hx⟩ := reads os enc
  refine returnsInHanded_of_row (C := Tryd.checked) (s := Rows.OpenSpec.upto Rows.evolveAdditiveSpec) own started (by kernel_rfl) Tryd.func7
    (witness_row_at (enc := enc) (C := Tryd.checked) false (World.laidAll Tryd.prog os Rows.evolveAdditiveUptoRow.laid) #[.agg #[.slice none 0 0], .agg #[.slice none 0 0]] (World.laidAll_os _ _ _) (by kernel_rfl) (by kernel_rfl) (by kernel_rfl)
      (OpenSpec.preRow_of_cond 8 hx (by kernel_rfl) (fun k hk => by injection hk with hk; subst hk; kernel_rfl) (by kernel_rfl) (laid_met os))) ?_
  intro W base args ds gs before hval hW _ hk _ hL _ _
  exact contract H enc W base args ds gs before hval hW (hk _ rfl)
theorem said : Rows.EvolveAdditiveUptoSaid :=
  OpenClaim.holds_of_cond 7 Tryd.f7 rfl rfl rfl rfl rfl rfl rfl ⟨rfl, rfl, rfl, rfl, rfl⟩ rfl rfl rfl rfl rfl (by kernel_rfl) Tryd.func7 (by kernel_rfl)
    (of_decide_eq_true (by kernel_rfl)) (by unfold Func.isWrapper; first | (rw [if_pos (by decide +kernel)]; kernel_rfl) | (rw [if_neg (by decide +kernel)]; exact ⟨rfl, rfl⟩))
    (fun os started H enc _ F => by rw [OpenClaim.pre_eq_preRow]; exact lifted os started H enc F)
theorem plain (f : FuncId) (fn : Func) (hf : Tryd.pinned.checked.prog.funcNamed "cartouche/cartouchelaw18.EvolveAdditive" = some f) (hfn : Tryd.pinned.checked.prog.funcs[f]? = some fn) :
    false = Tryd.pinned.checked.prog.looks [] ∧ ∀ (j : Nat) t, fn.params[j]? = some t → Tryd.pinned.checked.prog.wantsStandIn t = false := by
  obtain rfl : f = 7 := Option.some.inj ((show Tryd.prog.funcNamed "cartouche/cartouchelaw18.EvolveAdditive" = some 7 by kernel_rfl).symm.trans hf) |>.symm
  obtain rfl : fn = Tryd.f7 := (Option.some.inj (Tryd.func7.symm.trans hfn)).symm
  refine ⟨by kernel_rfl, fun j t ht => ?_⟩
  have hall : Tryd.f7.params.toList.all (fun t => !Tryd.pinned.checked.prog.wantsStandIn t) = true := by kernel_rfl
  have := List.all_eq_true.1 hall t (by rw [Array.mem_toList_iff]; exact Array.mem_of_getElem? ht)
  simpa using this
theorem card : Rows.EvolveAdditiveUptoCardSaid :=
  Claim7.holds_tied_plain_at .later [] _ _ _ _ said (fun _ h => by cases h) (by kernel_rfl) (fun _ h => by cases h) evolveAdditiveUpto_row_tie rfl ⟨rfl, rfl⟩ (by kernel_rfl) rfl plain (by kernel_rfl)
#print axioms card
end Go.Proofs.YtmdkcapbahjipaaDoor.evolveAdditiveUpto
namespace Go.Proofs.YtmdkcapbahjipaaDoor
theorem evolveAdditiveUpto_said : Rows.EvolveAdditiveUptoSaid := evolveAdditiveUpto.said
theorem evolveAdditiveUpto_card : Rows.EvolveAdditiveUptoCardSaid := evolveAdditiveUpto.card
end Go.Proofs.YtmdkcapbahjipaaDoor
