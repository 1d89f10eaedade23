/- The law WireKept, for what is of bulk at most 1048576: it returns true, and the input reads as it did. -/
import Derived.Test.YtfmeedphpcjkmaaRows
import Derived.Test.YtfmeedphpcjkmaaWOp
import Derived.Test.YtfmeedphpcjkmaaKV3
import Derived.WalkKit
import Derived.ProofKit
import Derived.OpenShut
import Derived.ShutString
import Derived.ChangeOld
import Derived.Below
import Derived.SizedLaws
import Derived.JoinedCond
set_option linter.unusedVariables false
namespace Go.Proofs.Ytfmeedphpcjkmaa.wireKeptUpto
open Go.ChangeShapes Go.WideShapes Go.ChangeAt Go.RowKit
open Go.ChangeMaps (open_string shut_string)
theorem own : ownKnob Try.prog.godebug = none := by kernel_rfl
theorem laidOut : laidOutB Try.prog = true := by kernel_rfl
mutual
theorem bulk_eq {H : Type} : ∀ d : DataW H, Rows.uptoBulk d = Ag.dBulk d
  | .lit l => by cases l <;> simp [Rows.uptoBulk, Ag.dBulk]
  | .nil => by simp [Rows.uptoBulk, Ag.dBulk]
  | .ptr d => by simp [Rows.uptoBulk, Ag.dBulk, bulk_eq d]
  | .slice e r => by simp [Rows.uptoBulk, Ag.dBulk, bulk_eqA e, bulk_eqA r]
  | .agg l => by simp [Rows.uptoBulk, Ag.dBulk, bulk_eqA l]
  | .iface _ d => by simp [Rows.uptoBulk, Ag.dBulk, bulk_eq d]
  | .map l => by simp [Rows.uptoBulk, Ag.dBulk, bulk_eqE l]
  | .held _ => by simp [Rows.uptoBulk, Ag.dBulk]
theorem bulk_eqA {H : Type} : ∀ l : List (DataW H), Rows.uptoBulkAll l = Ag.dBulkAll l
  | [] => by simp [Rows.uptoBulkAll, Ag.dBulkAll]
  | d :: r => by simp [Rows.uptoBulkAll, Ag.dBulkAll, bulk_eq d, bulk_eqA r]
theorem bulk_eqE {H : Type} : ∀ l : List (Lit × DataW H), Rows.uptoBulkEntries l = Ag.dBulkEntries l
  | [] => by simp [Rows.uptoBulkEntries, Ag.dBulkEntries]
  | x :: r => by simp [Rows.uptoBulkEntries, Ag.dBulkEntries, bulk_eqe x, bulk_eqE r]
theorem bulk_eqe {H : Type} : ∀ x : Lit × DataW H, Rows.uptoBulkEntry x = Ag.dBulkEntry x
  | (l, d) => by cases l <;> simp [Rows.uptoBulkEntry, Ag.dBulkEntry, bulk_eq d]
end
set_option maxRecDepth 100000 in
theorem lifted (os : Os) (started : os.Started) (H : Type) (enc : TypeId × Value → H) (F : Stop.Interp) :
    ReturnsInHanded {} Try.checked os 6 .any ((Rows.OpenSpec.upto Rows.wireKeptSpec).pre6 enc Try.prog Try.f6 Rows.wireKeptUptoRow.domain false) (((Rows.OpenSpec.upto Rows.wireKeptSpec).at F).post enc Try.prog Try.f6 false true false false) := by
  refine returnsInHanded_of_cond (C := Try.checked) (s := Rows.OpenSpec.upto Rows.wireKeptSpec) (k := Rows.uptoSmall) rfl own started (by kernel_rfl) Try.func6
    (OpenSpec.witness (enc := enc) (C := Try.checked) (s := Rows.OpenSpec.upto Rows.wireKeptSpec) (k := Rows.uptoSmall) rfl false ⟨#[], #[.slice none 0 0, .int .i64 0], []⟩ 8 (by kernel_rfl) (by kernel_rfl) (by kernel_rfl)
      (x := ([.nil, .lit (.int .i64 0)], [], [])) (by kernel_rfl) rfl (by kernel_rfl)) ?_
  intro W base args ds gs before hval0 hW _ hk _
  have hval : ∀ (j : Nat) t v, Try.f6.params[j]? = some t → args[j]? = some v → Value.okWide Try.prog W .any base t v := hval0
  have hW' := hW
  obtain ⟨p, q, hA0, hV, rfl, hfz, hnd⟩ := hW
  have hA : DataW.TrodAll enc Try.prog W 0 (fun _ => true) true Try.f6.params.toList args.toList ds p := hA0
  rw [Try.params6] at hA hval
  obtain ⟨v0, vs0, d0, ds0, p0, q0, hargs, rfl, rfl, h0, r0⟩ := trodAll_cons hA
  obtain ⟨v1, vs1, d1, ds1, p1, q1, rfl, rfl, rfl, h1, r1⟩ := trodAll_cons r0
  obtain ⟨rfl, rfl, rfl⟩ := trodAll_nil r1
  obtain rfl : args = #[v0, v1] := by cases args; simp_all
  obtain ⟨rfl, rfl⟩ := trodVars_none hV
  have hk2 : Rows.uptoBulkAll [d0, d1] ≤ 1048576 := of_decide_eq_true hk
  simp only [Rows.uptoBulkAll, bulk_eq] at hk2
  have h0b : Ag.dBulk d0 ≤ 1048576 := by omega
  have k0 := h0
  obtain ⟨n0, x0, s0, o0, m0, lt0⟩ := Ag.open_slc Ag.plainW_ok Try.underlying23 (by decide) (hval 0 23 v0 rfl rfl) h0
  obtain ⟨b0, rfl, q0⟩ := Ag.shp_bytes Try.underlying23 Try.underlying5 s0
  have h1b : Ag.dBulk d1 ≤ 1048576 := by omega
  obtain ⟨b1, rfl, rfl, rfl, w1⟩ := open_int Try.underlying3 (hval 1 3 v1 rfl rfl) h1
  have walk := Ag.FC.walks (Ag.wireKept_fc b0 b1 (by omega)) W [_, _] ⟨o0, .int _ _, trivial⟩
  refine walk.mono fun e W' ⟨he, bel⟩ => ?_
  subst he
  exact ⟨_, rfl, _, _, _, [], _, [], hW', trodAll_mk1 (shut_bool Try.underlying4 _), (trodAll_cons_mk (Below.trod laidOut (by kernel_rfl) (of_decide_eq_true (by kernel_rfl)) k0 bel lt0) (trodAll_cons_mk (shut_int Try.underlying3 w1) trodAll_mk0)), rfl, bel.frame _, fun h => by cases h⟩
theorem over : Rows.wireKeptUptoRow.holds Try.pinned (Rows.OpenSpec.upto Rows.wireKeptSpec) :=
  OpenClaim.holds_of_cond 6 Try.f6 rfl rfl rfl rfl rfl rfl rfl ⟨rfl, rfl, rfl, rfl, rfl⟩ rfl rfl rfl rfl rfl (by kernel_rfl) Try.func6 (by kernel_rfl)
    (of_decide_eq_true (by kernel_rfl)) (by unfold Func.isWrapper; first | (rw [if_pos (by decide +kernel)]; kernel_rfl) | (rw [if_neg (by decide +kernel)]; exact ⟨rfl, rfl⟩))
    (fun os started H enc _ F => lifted os started H enc F)
theorem proved : Rows.WireKeptUptoSaid := over
#print axioms proved
end Go.Proofs.Ytfmeedphpcjkmaa.wireKeptUpto
namespace Go.Proofs.Ytfmeedphpcjkmaa
/-- The row, under a short name, for the claim. -/
theorem wireKeptUpto_holds : Rows.WireKeptUptoSaid := wireKeptUpto.proved
end Go.Proofs.Ytfmeedphpcjkmaa
