/- bytes.Clone: a slice is compared with nil. -/
import Derived.Test.YtinoaofgbkdohaaZMb
import Derived.Test.YtinoaofgbkdohaaAgF4
import Derived.Test.YtinoaofgbkdohaaZAir
set_option linter.unusedVariables false
set_option linter.unusedSimpArgs false
set_option maxRecDepth 100000
set_option maxHeartbeats 2000000
open List renaming map_cons → zl0, map_nil → zl1, zipIdx_cons → zl2, zipIdx_nil → zl3
open Nat renaming reduceEqDiff → zn0, reduceAdd → zn1, reduceSub → zn2, reduceLeDiff → zn3, reduceMul → zn4, reduceBEq → zn5, reducePow → zn6, reduceLT → zn7, reduceDiv → zn8, reduceMod → zn9
open Int renaming reduceLT → zi0, reduceLE → zi1, reduceNeg → zi2, reduceEq → zi3, reduceToNat → zi4
namespace Go.Proofs.Ytinoaofgbkdohaa.Ag
theorem run_eqNil {P : Program} {t e : TypeId} (ht : P.underlying t = some (.slice e)) (xo yo : Operand) (a : Option Addr) (n c : Nat) (w : World) :
    ∃ b : Bool, (b = true → a = none) ∧ (do eqGuard .eql t xo yo (.slice a n c) (.slice none 0 0); binOp .eql t (.slice a n c) (.slice none 0 0) : Sem Value).run P w = .ok (.bool b) w := by
  have he : ∀ d, (Op.equalIn (d + 1) t (.slice a n c) (.slice none 0 0)).run P w = .ok a.isNone w := by
    intro d
    cases a <;> simp only [Op.equalIn, Sem.run_bind, run_underlying' ht, Result.andThen_ok, Sem.run_pure, Option.isNone]
  have h1 : (Op.equal t (.slice a n c) (.slice none 0 0)).run P w = .ok a.isNone w := he 9999
  exact ⟨a.isNone, by simp, by simp [eqGuard, binOp, h1]⟩
theorem wpc_eqNil {p : Prm} {P : Program} {N id d x : Nat} {t t' e : TypeId} {ops : Array Oper} {pre : List Oper} {o : Oper} {ch : List Nat} {is : List AIns} {Q : AEx → St → Prop} {s : St}
    (hops : ops.toList = pre ++ [o]) (tr : trAll P N ops ch pre = some is) (ho : o.op = .binOp .eql t (.tmp x) (.const (.slice none 0 0)) t') (ht : P.underlying t = some (.slice e)) (hg : o.guard = none) (hd : o.dst = some d) (hN : d < N)
    (h : wpr P is (fun s1 => ∃ xs, lk s1.ρ x = some (.iv (.slice xs)) ∧ ∀ b : Bool, (b = true → xs = []) → Q .normal (s1.put (some d) (.iv (.bool b)))) s) : wpc P (.ext N p (.region id ops false)) Q s := by
  intro n K a w hs hp
  refine wpIn_region_list ?_
  rw [hops]
  refine wpListIn_app (list_in (ro := none) ?_ (trAll_noDefer tr) (wpr_ok tr hs h ?_))
  · rintro ⟨a, w, hout⟩; exact PostX.notOut ⟨a, w, hout⟩
  rintro K1 s1 a1 w1 q1 q2 q3 ⟨xs, hx, hQ⟩
  show wpListIn Fence.wide n P ops _ [o] a1 w1
  unfold wpListIn
  rw [if_pos (by simp [Region.wanted, hg])]
  obtain ⟨u, hu, hru⟩ := q1.tmps x _ hx
  have hev : a1.eval (.tmp x) = u := by simp [Act.eval, Array.getD_eq_getD_getElem?, hu]
  obtain ⟨ad, n0, c0, rfl, hnil⟩ : ∃ ad n c, u = .slice ad n c ∧ (ad = none → xs = []) := by
    cases hru with
    | iv _ _ hr => cases hr <;> exact ⟨_, _, _, rfl, fun h => by first | rfl | cases h⟩
  obtain ⟨b, hb0, hb⟩ := run_eqNil (P := P) ht (.tmp x) (.const (.slice none 0 0)) ad n0 c0 w1
  refine ⟨fun _ _ => trivial, ?_⟩
  have hrun : (o.semAt Fence.wide.round a1.eval).run P w1 = .ok (.value (.bool b)) w1 := by
    rw [show Fence.wide.round = none from rfl, Oper.semAt_none]
    obtain ⟨d0, op, ty, ps, af, g⟩ := o
    simp only at ho; subst ho
    have e2 : a1.eval (.const (.slice none 0 0)) = .slice none 0 0 := rfl
    simp only [execOp, hev, e2]
    simp only [Sem.run_bind] at hb ⊢
    rw [hb]
    rfl
  rw [hrun]
  show PostX p N K s.σ w a.defers Q .normal (a1.put o.dst (.bool b)) w1
  have hs2 : SRel N K1 (s1.put (some d) (.iv (.bool b))) (a1.put o.dst (.bool b)) w1 := by
    rw [hd]
    exact TRel.put q1 (Kr.Le.refl _ _) q1.slots (.iv _ _ (.bool b)) (by intro d' e; cases e; exact hN)
  exact .of hp .normal hs2 (by simpa [St.put] using q2) (by rw [put_defers]; exact q3) (hQ b fun h => hnil (hb0 h))
noncomputable def o_bytes_Clone_1 : Array Oper := opsOf (codeAt [true, false, false] (bodyOf Try.f30))
noncomputable def A_bytes_Clone (p : Prm) : AFn := ⟨(.seq (.region [⟨some 2, none, .mov (.c (.nil))⟩])
    (.seq (.seq (.ext 8 p (.region 1 o_bytes_Clone_1 false))
    (.cond (.t 4) (.seq (.region [⟨some 2, none, .mov (.c (.nil))⟩])
    .ret)
    .skip))
    (.seq (.region [⟨some 5, none, .blist 0 5 1⟩,
      ⟨some 6, none, .mov (.t 0)⟩,
      ⟨some 7, none, .app 0 5 1 1 (.t 5) (.t 6)⟩,
      ⟨some 2, none, .mov (.t 7)⟩])
    .ret))), [.tmp 2]⟩
theorem T_bytes_Clone (p : Prm) : trFnX p Try.prog [(2000001, [1])] Try.f30 = some (A_bytes_Clone p) := by kernel_rfl
theorem L_bytes_Clone : 1 ≤ Try.f30.ntmps := by decide
noncomputable def o_frame_frames_1_5 : Array Oper := opsOf (codeAt [true, false, false, true, false, true, true, false, false] (bodyOf Try.f29))
def is_frame_frames_1_5 : List AIns := [⟨some 22, none, .mov (.t 0)⟩,
      ⟨some 23, none, .mov (.t 3)⟩,
      ⟨some 24, none, .load 1 false (.t 1)⟩,
      ⟨some 25, none, .mov (.t 4)⟩,
      ⟨some 26, none, .mov (.t 5)⟩,
      ⟨some 27, none, .mov (.t 5)⟩,
      ⟨some 28, none, .slc 1 (.t 24) (some (.t 25)) (some (.t 26)) (some (.t 27))⟩,
      ⟨some 29, none, .call i_bytes_Clone [.t 28]⟩,
      ⟨some 30, none, .callv (.t 22) [.t 23, .t 29]⟩,
      ⟨some 31, none, .un .not (.t 30)⟩]
noncomputable def A_frame_frames_1 (p : Prm) : AFn := ⟨(.seq (.region [⟨some 3, none, .mov (.c (.int .i64 0))⟩])
    (.block 0 (.loop (.seq (.seq (.region [⟨some 7, none, .mov (.t 3)⟩,
      ⟨some 8, none, .load 1 false (.t 1)⟩,
      ⟨some 9, none, .len false (.t 8)⟩,
      ⟨some 10, none, .bin false .lss (.t 7) (.t 9)⟩])
    (.cond (.t 10) .skip
    (.exit 0)))
    (.block 1 (.seq (.region [⟨some 12, none, .load 1 false (.t 1)⟩,
      ⟨some 13, none, .mov (.t 3)⟩,
      ⟨some 14, none, .call i_frame_stands [.t 12, .t 13]⟩,
      ⟨some 11, none, .mov (.t 14)⟩,
      ⟨some 15, none, .ext 0 (.t 11)⟩,
      ⟨some 16, none, .ext 1 (.t 11)⟩,
      ⟨some 17, none, .ext 2 (.t 11)⟩,
      ⟨some 4, none, .mov (.t 15)⟩,
      ⟨some 5, none, .mov (.t 16)⟩,
      ⟨some 6, none, .mov (.t 17)⟩])
    (.seq (.seq (.region [⟨some 18, none, .mov (.t 6)⟩,
      ⟨some 19, none, .un .not (.t 18)⟩])
    (.cond (.t 19) (.seq (.region [⟨some 20, none, .mov (.t 3)⟩,
      ⟨some 21, none, .bin false .add (.t 20) (.c (.int .i64 1))⟩,
      ⟨some 3, none, .mov (.t 21)⟩])
    (.exit 1))
    .skip))
    (.seq (.seq (.ext 33 p (.region 5 o_frame_frames_1_5 false))
    (.cond (.t 31) .ret
    .skip))
    (.region [⟨some 32, none, .mov (.t 5)⟩,
      ⟨some 3, none, .mov (.t 32)⟩]))))))))), []⟩
theorem T_frame_frames_1 (p : Prm) : trFnX p Try.prog [(2000005, [1])] Try.f29 = some (A_frame_frames_1 p) := by kernel_rfl
theorem L_frame_frames_1 : 2 ≤ Try.f29.ntmps := by decide
noncomputable def cA_frame_Salvage : Code := codeAt [true, true, true, false, true, false, false] (bodyOf Try.f8)
noncomputable def cB_frame_Salvage : Code := codeAt [true, true, true, false, true, false, true] (bodyOf Try.f8)
def rA_frame_Salvage : ACode := (.seq (.region [⟨some 7, none, .mov (.t 11)⟩])
    (.region [⟨some 8, none, .mov (.t 12)⟩]))
def rB_frame_Salvage : ACode := (.block 1 (.seq (.region [⟨some 13, none, .load 1 false (.t 5)⟩,
      ⟨some 14, none, .mov (.t 7)⟩,
      ⟨some 15, none, .load 1 false (.t 6)⟩,
      ⟨some 16, none, .bin false .sub (.t 14) (.t 15)⟩,
      ⟨some 17, none, .bin false .add (.t 13) (.t 16)⟩,
      ⟨none, none, .store 1 (.t 5) (.t 17)⟩])
    (.seq (.region [⟨some 19, none, .load 1 false (.t 1)⟩,
      ⟨some 20, none, .mov (.t 7)⟩,
      ⟨some 21, none, .call i_frame_stands [.t 19, .t 20]⟩,
      ⟨some 18, none, .mov (.t 21)⟩,
      ⟨some 22, none, .ext 0 (.t 18)⟩,
      ⟨some 23, none, .ext 1 (.t 18)⟩,
      ⟨some 24, none, .ext 2 (.t 18)⟩,
      ⟨none, none, .store 1 (.t 6) (.t 23)⟩])
    (.draw [4, 6, 7, 8, 9, 10, 1000000, 1000003, 2000009, 2000010, 4000010, 4000011, 4000012, 4000014, 4000015] [⟨some 25, none, .load 1 false (.t 4)⟩,
      ⟨some 26, none, .mov (.t 7)⟩,
      ⟨some 27, none, .mov (.t 8)⟩,
      ⟨some 28, none, .len false (.t 27)⟩,
      ⟨some 29, none, .mks 13 5 1 1 (.int .u8 0) (.c (.int .i64 0)) (.t 28)⟩,
      ⟨some 30, none, .mov (.t 8)⟩,
      ⟨some 31, none, .app 13 5 1 1 (.t 29) (.t 30)⟩,
      ⟨some 32, none, .build [.int .i64 0, .nil] [(0, 1, .t 26), (1, 1, .t 31)]⟩,
      ⟨some 33, none, .bslice 2 [.t 32]⟩,
      ⟨some 34, none, .app 14 46 2 32 (.t 25) (.t 33)⟩,
      ⟨none, none, .store 1 (.t 4) (.t 34)⟩]))))
noncomputable def A_frame_Salvage (p : Prm) : AFn := ⟨(.seq (.region [⟨some 1, none, .boxI (.t 0)⟩,
      ⟨some 2, none, .mov (.c (.nil))⟩,
      ⟨some 3, none, .mov (.c (.int .i64 0))⟩])
    (.seq (.region [⟨some 4, none, .alloc 10 [.nil]⟩])
    (.seq (.region [⟨some 5, none, .alloc 11 [.int .i64 0]⟩,
      ⟨some 6, none, .alloc 12 [.int .i64 0]⟩,
      ⟨none, none, .store 1 (.t 5) (.c (.int .i64 0))⟩,
      ⟨none, none, .store 1 (.t 6) (.c (.int .i64 0))⟩])
    (.seq (.seq (.region [⟨some 9, none, .load 1 false (.t 1)⟩,
      ⟨some 10, none, .call i_frame_frames [.t 9]⟩])
    (.block 0 (.ext 46 p (.rangeFunc (.tmp 10) #[11, 12] cA_frame_Salvage cB_frame_Salvage))))
    (.seq (.draw [2, 4, 1000000, 1000001, 1000003, 1000005, 1000006, 1000007, 1000009, 4000010, 4000011, 4000012, 4000013, 4000014] [⟨some 35, none, .load 1 false (.t 4)⟩,
      ⟨some 36, none, .len false (.t 35)⟩,
      ⟨some 37, none, .mks 15 46 2 32 (.agg [.int .i64 0, .nil]) (.c (.int .i64 0)) (.t 36)⟩,
      ⟨some 38, none, .load 1 false (.t 4)⟩,
      ⟨some 39, none, .app 15 46 2 32 (.t 37) (.t 38)⟩,
      ⟨some 40, none, .load 1 false (.t 5)⟩,
      ⟨some 41, none, .load 1 false (.t 1)⟩,
      ⟨some 42, none, .len false (.t 41)⟩,
      ⟨some 43, none, .bin false .add (.t 40) (.t 42)⟩,
      ⟨some 44, none, .load 1 false (.t 6)⟩,
      ⟨some 45, none, .bin false .sub (.t 43) (.t 44)⟩,
      ⟨some 2, none, .mov (.t 39)⟩,
      ⟨some 3, none, .mov (.t 45)⟩])
    .ret))))), [.tmp 2, .tmp 3]⟩
theorem T_frame_Salvage (p : Prm) : trFnX p Try.prog [(1, [11]), (2, [12, 13, 0, 0]), (8, [0, 0, 0, 0, 13, 0, 13, 0, 0, 14, 0]), (9, [0, 0, 15, 0, 15, 0, 0, 0, 0, 0, 0, 0, 0]), (1000008, [4, 6, 7, 8, 9, 10, 1000000, 1000003, 2000009, 2000010, 4000010, 4000011, 4000012, 4000014, 4000015]), (1000009, [2, 4, 1000000, 1000001, 1000003, 1000005, 1000006, 1000007, 1000009, 4000010, 4000011, 4000012, 4000013, 4000014])] Try.f8 = some (A_frame_Salvage p) := by kernel_rfl
theorem L_frame_Salvage : 1 ≤ Try.f8.ntmps := by decide
theorem rA_frame_Salvage_ok : trX none Try.prog 46 [(1, [11]), (2, [12, 13, 0, 0]), (8, [0, 0, 0, 0, 13, 0, 13, 0, 0, 14, 0]), (9, [0, 0, 15, 0, 15, 0, 0, 0, 0, 0, 0, 0, 0]), (1000008, [4, 6, 7, 8, 9, 10, 1000000, 1000003, 2000009, 2000010, 4000010, 4000011, 4000012, 4000014, 4000015]), (1000009, [2, 4, 1000000, 1000001, 1000003, 1000005, 1000006, 1000007, 1000009, 4000010, 4000011, 4000012, 4000013, 4000014])] cA_frame_Salvage = some rA_frame_Salvage := by kernel_rfl
theorem rB_frame_Salvage_ok : trX none Try.prog 46 [(1, [11]), (2, [12, 13, 0, 0]), (8, [0, 0, 0, 0, 13, 0, 13, 0, 0, 14, 0]), (9, [0, 0, 15, 0, 15, 0, 0, 0, 0, 0, 0, 0, 0]), (1000008, [4, 6, 7, 8, 9, 10, 1000000, 1000003, 2000009, 2000010, 4000010, 4000011, 4000012, 4000014, 4000015]), (1000009, [2, 4, 1000000, 1000001, 1000003, 1000005, 1000006, 1000007, 1000009, 4000010, 4000011, 4000012, 4000013, 4000014])] cB_frame_Salvage = some rB_frame_Salvage := by kernel_rfl
set_option maxHeartbeats 4000000
noncomputable def envXt : Env := { xt := fun N p c Q s => wpc Try.prog (.ext N p c) Q s }
theorem envXt_ok : EnvOk Try.prog envXt := EnvOk.none.addX
theorem under23 : Try.prog.underlying 23 = some (.slice 5) := by kernel_rfl
theorem clone_fc (bs : List UInt8) (hb : bs.length ≤ 140737488351232) : FC Try.prog i_bytes_Clone [.slice (bs.map encB)] (· = .slice (bs.map encB)) := by
  refine FCvcX envXt_ok F_bytes_Clone (T_bytes_Clone triv) L_bytes_Clone ?_
  unfold A_bytes_Clone; simp only [args0, zl0, zl1, zl2, zl3, zn1]
  (simp -implicitDefEqProofs +contextual (maxSteps := 8000000) only [go_sem, ↓reduceIte, zn0, zn1, zn2, zn3, zn4, reduceCtorEq, zn5, zi0, zi1, zi2, zi3, zi4, zn6, zn7, zn8, zn9, envXt])
  refine wpc_eqNil (pre := (o_bytes_Clone_1.toList).take 1) (o := (o_bytes_Clone_1.toList).getD 1 default) (ch := []) (is := [⟨some 3, none, .mov (.t 0)⟩]) (x := 3) (t := 23) (t' := 23) (by kernel_rfl) (by kernel_rfl) (by kernel_rfl) under23 (by kernel_rfl) (d := 4) (by kernel_rfl) (by omega) ?_
  refine vcR_ok envXt_ok ?_
  (simp -implicitDefEqProofs +contextual (maxSteps := 8000000) only [go_sem, ↓reduceIte, zn0, zn1, zn2, zn3, zn4, reduceCtorEq, zn5, zi0, zi1, zi2, zi3, zi4, zn6, zn7, zn8, zn9, envXt])
  refine ⟨_, rfl, fun b hnil => ?_⟩
  cases b
  · (simp -implicitDefEqProofs +contextual (maxSteps := 8000000) only [go_sem, ↓reduceIte, zn0, zn1, zn2, zn3, zn4, reduceCtorEq, zn5, zi0, zi1, zi2, zi3, zi4, zn6, zn7, zn8, zn9, envXt, hb])
    omega
  · have := hnil rfl
    (simp -implicitDefEqProofs +contextual (maxSteps := 8000000) only [go_sem, ↓reduceIte, zn0, zn1, zn2, zn3, zn4, reduceCtorEq, zn5, zi0, zi1, zi2, zi3, zi4, zn6, zn7, zn8, zn9, envXt, hb])
    exact this.symm
abbrev Bss := List (List UInt8)
def encBs (b : List UInt8) : IV := .slice (b.map encB)
def encL (l : Bss) : IV := .slice (l.map encBs)
structure Pt where
  at_ : Nat
  b : List UInt8
  deriving DecidableEq
def encPt (p : Pt) : IV := .agg [.int .i64 (p.at_ : Int), encBs p.b]
def encPts (l : List Pt) : IV := .slice (l.map encPt)
def LsI (x y : Bss) (n : Nat) (s : St) : Prop := ∃ (i : Nat), lk s.ρ 0 = some (.iv (encL x)) ∧ lk s.ρ 1 = some (.iv (encL y)) ∧ lk s.ρ 5 = some (.iv (.int .i64 (i : Int))) ∧ i ≤ x.length ∧ x.length < i + n ∧ x.take i = y.take i
theorem lists_fc (x y : Bss) (hx : x.length ≤ 140737488351232) : FC Try.prog i_cartouchelaw23_lists [encL x, encL y] (· = .bool (decide (x = y))) := by
  (refine FC.vc (envN_ok) F_cartouchelaw23_lists T_cartouchelaw23_lists L_cartouchelaw23_lists ?_; unfold A_cartouchelaw23_lists; simp only [args0, zl0, zl1, zl2, zl3, zn1])
  (simp -implicitDefEqProofs +contextual (maxSteps := 8000000) only [go_sem, ↓reduceIte, zn0, zn1, zn2, zn3, zn4, reduceCtorEq, zn5, zi0, zi1, zi2, zi3, zi4, zn6, zn7, zn8, zn9, encL, envN])
  refine ⟨fun h => ?_, fun h => ?_⟩
  · have : x ≠ y := by rintro rfl; exact h rfl
    simp [this]
  have hxy : x.length = y.length := by omega
  refine vc_loop (LsI x y) (x.length + 1) ⟨0, by simp [lk, encL], by simp [lk, encL], by simp [lk], by omega, by omega, by simp⟩ ?_
  rintro n s ⟨i, h0, h1, h5, g1, g2, g3⟩
  simp only [encL] at h0 h1
  by_cases hi : i < x.length
  · obtain ⟨e, he⟩ : ∃ e, x[i]? = some e := ⟨x[i], by simp [hi]⟩
    obtain ⟨f, hf⟩ : ∃ f, y[i]? = some f := ⟨y[i]'(by omega), by simp [show i < y.length by omega]⟩
    have hw : IntKind.i64.wrap ((i : Int) + 1) = ((i + 1 : Nat) : Int) := by rw [wrap_i64 (by omega) (by omega)]; omega
    have hgx : (x.map encBs)[i]? = some (encBs e) := by simp [he]
    have hgy : (y.map encBs)[i]? = some (encBs f) := by simp [hf]
    simp only [encBs] at hgx hgy
    (simp -implicitDefEqProofs +contextual (maxSteps := 8000000) only [go_sem, ↓reduceIte, zn0, zn1, zn2, zn3, zn4, reduceCtorEq, zn5, zi0, zi1, zi2, zi3, zi4, zn6, zn7, zn8, zn9, encL, envN, h0, h1, h5, hi, hw, hgx, hgy, Option.some.injEq, forall_eq'])
    refine ⟨by omega, fun hne => ?_, fun heq => ?_⟩
    · have : x ≠ y := by rintro rfl; rw [he] at hf; injection hf with hf; exact hne hf
      simp [this]
    · subst heq
      refine ⟨n - 1, by omega, i + 1, by simp [lk, h0, encL], by simp [lk, h1, encL], by simp [lk], by omega, by omega, ?_⟩
      rw [List.take_add_one, List.take_add_one, g3, he, hf]
  · (simp -implicitDefEqProofs +contextual (maxSteps := 8000000) only [go_sem, ↓reduceIte, zn0, zn1, zn2, zn3, zn4, reduceCtorEq, zn5, zi0, zi1, zi2, zi3, zi4, zn6, zn7, zn8, zn9, encL, envN, h0, h1, h5, hi])
    have : x = y := by
      rw [List.take_of_length_le (by omega), List.take_of_length_le (by omega)] at g3; exact g3
    simp [this]
def PsI (x y : List Pt) (n : Nat) (s : St) : Prop := ∃ (i : Nat), lk s.ρ 0 = some (.iv (encPts x)) ∧ lk s.ρ 1 = some (.iv (encPts y)) ∧ lk s.ρ 5 = some (.iv (.int .i64 (i : Int))) ∧ i ≤ x.length ∧ x.length < i + n ∧ x.take i = y.take i
theorem parts_fc (x y : List Pt) (hx : x.length ≤ 140737488351232) : FC Try.prog i_cartouchelaw23_parts [encPts x, encPts y] (· = .bool (decide (x = y))) := by
  (refine FC.vc (envN_ok) F_cartouchelaw23_parts T_cartouchelaw23_parts L_cartouchelaw23_parts ?_; unfold A_cartouchelaw23_parts; simp only [args0, zl0, zl1, zl2, zl3, zn1])
  (simp -implicitDefEqProofs +contextual (maxSteps := 8000000) only [go_sem, ↓reduceIte, zn0, zn1, zn2, zn3, zn4, reduceCtorEq, zn5, zi0, zi1, zi2, zi3, zi4, zn6, zn7, zn8, zn9, encPts, envN])
  refine ⟨fun h => ?_, fun h => ?_⟩
  · have : x ≠ y := by rintro rfl; exact h rfl
    simp [this]
  have hxy : x.length = y.length := by omega
  refine vc_loop (PsI x y) (x.length + 1) ⟨0, by simp [lk, encPts], by simp [lk, encPts], by simp [lk], by omega, by omega, by simp⟩ ?_
  rintro n s ⟨i, h0, h1, h5, g1, g2, g3⟩
  simp only [encPts] at h0 h1
  by_cases hi : i < x.length
  · obtain ⟨⟨ea, eb⟩, he⟩ : ∃ e, x[i]? = some e := ⟨x[i], by simp [hi]⟩
    obtain ⟨⟨fa, fb⟩, hf⟩ : ∃ f, y[i]? = some f := ⟨y[i]'(by omega), by simp [show i < y.length by omega]⟩
    have hw : IntKind.i64.wrap ((i : Int) + 1) = ((i + 1 : Nat) : Int) := by rw [wrap_i64 (by omega) (by omega)]; omega
    have hgx : (x.map encPt)[i]? = some (encPt ⟨ea, eb⟩) := by simp [he]
    have hgy : (y.map encPt)[i]? = some (encPt ⟨fa, fb⟩) := by simp [hf]
    simp only [encPt, encBs] at hgx hgy
    have hiy : i < y.length := by omega
    by_cases hA : ea = fa
    · by_cases hB : eb = fb
      · subst hA; subst hB
        (simp -implicitDefEqProofs +contextual (maxSteps := 8000000) only [go_sem, ↓reduceIte, zn0, zn1, zn2, zn3, zn4, reduceCtorEq, zn5, zi0, zi1, zi2, zi3, zi4, zn6, zn7, zn8, zn9, encPts, envN, h0, h1, h5, hi, hiy, hw, hgx, hgy, Option.some.injEq, forall_eq'])
        refine ⟨n - 1, by omega, i + 1, by simp [lk, h0, encPts], by simp [lk, h1, encPts], by simp [lk], by omega, by omega, ?_⟩
        rw [List.take_add_one, List.take_add_one, g3, he, hf]
      · have : x ≠ y := by rintro rfl; rw [he] at hf; injection hf with hf; injection hf with _ hf; exact hB hf
        subst hA
        (simp -implicitDefEqProofs +contextual (maxSteps := 8000000) only [go_sem, ↓reduceIte, zn0, zn1, zn2, zn3, zn4, reduceCtorEq, zn5, zi0, zi1, zi2, zi3, zi4, zn6, zn7, zn8, zn9, encPts, envN, h0, h1, h5, hi, hiy, hw, hgx, hgy, hB, Option.some.injEq, forall_eq'])
        simp [this]
    · have : x ≠ y := by rintro rfl; rw [he] at hf; injection hf with hf; injection hf with hf _; exact hA hf
      (simp -implicitDefEqProofs +contextual (maxSteps := 8000000) only [go_sem, ↓reduceIte, zn0, zn1, zn2, zn3, zn4, reduceCtorEq, zn5, zi0, zi1, zi2, zi3, zi4, zn6, zn7, zn8, zn9, encPts, envN, h0, h1, h5, hi, hiy, hw, hgx, hgy, hA, Option.some.injEq, forall_eq'])
      simp [this]
  · (simp -implicitDefEqProofs +contextual (maxSteps := 8000000) only [go_sem, ↓reduceIte, zn0, zn1, zn2, zn3, zn4, reduceCtorEq, zn5, zi0, zi1, zi2, zi3, zi4, zn6, zn7, zn8, zn9, encPts, envN, h0, h1, h5, hi])
    have : x = y := by
      rw [List.take_of_length_le (by omega), List.take_of_length_le (by omega)] at g3; exact g3
    simp [this]
def sumOf (c : List UInt8) : Int := fnv fnv0 (pvL c.length ++ c)
def frL (c : List UInt8) : List UInt8 := 126 :: (pvL c.length ++ (wdL (sumOf c).toNat 4 ++ c))
theorem sumOf_range (c : List UInt8) : 0 ≤ sumOf c ∧ sumOf c < 4294967296 := fnv_range _ _ (by decide)
noncomputable def envFr : Env := { fc := [(i_cartoucheref23_Sum, g_cartoucheref23_Sum), (i_cartoucheref1_PutWord, g_cartoucheref1_PutWord)], oc := [(i_cartoucheref1_PutVarint, g_cartoucheref1_PutVarint)] }
theorem envFr_ok : EnvOk Try.prog envFr := ((EnvOk.none.addF g_cartoucheref1_PutWord_ok).addF g_cartoucheref23_Sum_ok).addO g_cartoucheref1_PutVarint_ok
theorem enc126 : encB 126 = .int .u8 126 := rfl
theorem ref_frame_fc (c : List UInt8) (hc : c.length ≤ 100000000000) : FC Try.prog i_cartoucheref23_Frame [.slice (c.map encB)] (· = .slice ((frL c).map encB)) := by
  have w1 : IntKind.u64.wrap (c.length : Int) = (c.length : Int) := wrap_u64 (by omega) (by omega)
  have hp := pvL_len10 (n := c.length) (by omega)
  have w2 : IntKind.u64.wrap (sumOf c) = sumOf c := wrap_u64 (sumOf_range c).1 (by have := sumOf_range c; omega)
  have r0 := sumOf_range c
  have h1 : (c.length : Int) < 18446744073709551616 := by omega
  have h2 : (pvL c.length ++ c).length ≤ 140737488351232 := by simp; omega
  have h3 : sumOf c < 18446744073709551616 := by omega
  have hs := g_cartoucheref23_Sum_is (pvL c.length ++ c)
  rw [if_pos h2, List.map_append] at hs
  rw [show fnv fnv0 (pvL c.length ++ c) = sumOf c from rfl] at hs
  (refine FC.vc (envFr_ok) F_cartoucheref23_Frame T_cartoucheref23_Frame L_cartoucheref23_Frame ?_; unfold A_cartoucheref23_Frame; simp only [args0, zl0, zl1, zl2, zl3, zn1])
  (simp -implicitDefEqProofs +contextual (maxSteps := 8000000) only [go_sem, ↓reduceIte, zn0, zn1, zn2, zn3, zn4, reduceCtorEq, zn5, zi0, zi1, zi2, zi3, zi4, zn6, zn7, zn8, zn9, envFr, i_cartoucheref23_Sum, i_cartoucheref1_PutWord, i_cartoucheref1_PutVarint, g_cartoucheref1_PutVarint_is, g_cartoucheref1_PutWord_is, hs, w1, w2, h1, h2, h3, r0.1])
  have hl := wdL_len (sumOf c).toNat 4
  refine ⟨by omega, by omega, by omega, by omega, ?_⟩
  simp only [frL, List.map_cons, List.map_append, enc126, List.append_assoc]
def atG (bs : List UInt8) (at_ : Nat) (g : Nat × Nat × Nat) : List UInt8 × Nat × Bool :=
  if g.2.2 ≠ 0 ∨ 65536 < g.1 ∨ bs.length < g.2.1 + 4 + g.1 then ([], 0, false) else
  if frL (sl bs (g.2.1 + 4) (g.2.1 + 4 + g.1)) = sl bs at_ (g.2.1 + 4 + g.1) then (sl bs (g.2.1 + 4) (g.2.1 + 4 + g.1), g.2.1 + 4 + g.1, true) else ([], 0, false)
def atR (bs : List UInt8) (at_ : Nat) : List UInt8 × Nat × Bool :=
  match bs[at_]? with
  | some b => if b.toNat = 126 then atG bs at_ (gvAt bs (at_ + 1 : Nat)) else ([], 0, false)
  | none => ([], 0, false)
def encAt (r : List UInt8 × Nat × Bool) : IV := .tup [encBs r.1, .int .i64 (r.2.1 : Int), .bool r.2.2]
open Classical
noncomputable def g_frame_stands : List IV → Option IV
  | [.slice b_, .int .i64 k] => (match unBs b_ with
    | some b => if b.length ≤ 140737488351232 ∧ 0 ≤ k ∧ k ≤ 140737488351232 then some (encST (stR b k.toNat)) else none
    | none => none)
  | _ => none
theorem g_frame_stands_is (b : List UInt8) (k : Int) : g_frame_stands [.slice (b.map encB), .int .i64 k] = if b.length ≤ 140737488351232 ∧ 0 ≤ k ∧ k ≤ 140737488351232 then some (encST (stR b k.toNat)) else none := by
  simp only [g_frame_stands, unBs_enc]
theorem g_frame_stands_ok : ∀ xs r, g_frame_stands xs = some r → FC Try.prog i_frame_stands xs (· = r) := by
  intro xs r h
  unfold g_frame_stands at h
  split at h
  · rename_i b_ k
    split at h
    · rename_i b hb
      split at h
      · rename_i hpre
        injection h with h; subst h
        have := unBs_enc_inv hb; subst this
        obtain ⟨a, rfl⟩ := Int.eq_ofNat_of_zero_le hpre.2.1
        exact stands_fc b a hpre.1 (by omega)
      · cases h
    · cases h
  · cases h

noncomputable def g_bytes_Clone : List IV → Option IV
  | [.slice b_] => (match unBs b_ with
    | some b => if b.length ≤ 140737488351232 then some (.slice (b.map encB)) else none
    | none => none)
  | _ => none
theorem g_bytes_Clone_is (b : List UInt8) : g_bytes_Clone [.slice (b.map encB)] = if b.length ≤ 140737488351232 then some (.slice (b.map encB)) else none := by
  simp only [g_bytes_Clone, unBs_enc]
theorem g_bytes_Clone_ok : ∀ xs r, g_bytes_Clone xs = some r → FC Try.prog i_bytes_Clone xs (· = r) := by
  intro xs r h
  unfold g_bytes_Clone at h
  split at h
  · rename_i b_
    split at h
    · rename_i b hb
      split at h
      · rename_i hpre
        injection h with h; subst h
        have := unBs_enc_inv hb; subst this
        exact clone_fc b hpre
      · cases h
    · cases h
  · cases h

noncomputable def g_cartoucheref23_Frame : List IV → Option IV
  | [.slice b_] => (match unBs b_ with
    | some b => if b.length ≤ 100000000000 then some (.slice ((frL b).map encB)) else none
    | none => none)
  | _ => none
theorem g_cartoucheref23_Frame_is (b : List UInt8) : g_cartoucheref23_Frame [.slice (b.map encB)] = if b.length ≤ 100000000000 then some (.slice ((frL b).map encB)) else none := by
  simp only [g_cartoucheref23_Frame, unBs_enc]
theorem g_cartoucheref23_Frame_ok : ∀ xs r, g_cartoucheref23_Frame xs = some r → FC Try.prog i_cartoucheref23_Frame xs (· = r) := by
  intro xs r h
  unfold g_cartoucheref23_Frame at h
  split at h
  · rename_i b_
    split at h
    · rename_i b hb
      split at h
      · rename_i hpre
        injection h with h; subst h
        have := unBs_enc_inv hb; subst this
        exact ref_frame_fc b hpre
      · cases h
    · cases h
  · cases h

end Go.Proofs.Ytinoaofgbkdohaa.Ag
namespace Go.Proofs.Ytinoaofgbkdohaa.Ag
noncomputable def envAt : Env := { fc := [(i_cartoucheref1_GetVarint, g_cartoucheref1_GetVarint), (i_cartoucheref23_Frame, g_cartoucheref23_Frame)] }
theorem envAt_ok : EnvOk Try.prog envAt := (EnvOk.none.addF g_cartoucheref23_Frame_ok).addF g_cartoucheref1_GetVarint_ok
theorem mkB_eq {a b : List UInt8} : (({ data := a.toArray } : ByteArray) = { data := b.toArray }) = (a = b) := by simp
theorem ref_at_fc (bs : List UInt8) (k : Nat) (hb : bs.length ≤ 1000000000) (h1 : k < bs.length) : FC Try.prog i_cartoucheref23_At [.slice (bs.map encB), .int .i64 (k : Int)] (· = encAt (atR bs k)) := by
  have w1 : IntKind.i64.wrap ((k : Int) + 1) = ((k + 1 : Nat) : Int) := by rw [wrap_i64 (by omega) (by omega)]; omega
  obtain ⟨b, hbk⟩ : ∃ b, bs[k]? = some b := ⟨bs[k], by simp [h1]⟩
  have hgx : (bs.map encB)[k]? = some (encB b) := by simp [hbk]
  simp only [encB] at hgx
  have hb' : bs.length ≤ 140737488351232 := by omega
  by_cases h2 : b.toNat = 126
  · have h2' : (b.toNat : Int) = 126 := by omega
    rcases hg : gvAt bs ((k + 1 : Nat) : Int) with ⟨n, nx, e⟩
    have hst : atR bs k = atG bs k (n, nx, e) := by simp only [atR, hbk, h2, if_true, hg]
    have hn := gvAt_lt bs ((k + 1 : Nat) : Int)
    rw [hg] at hn
    simp only at hn
    rw [hst]
    have k0 : ((k + 1 : Nat) : Int) ≤ bs.length := by omega
    have k0' : k + 1 ≤ bs.length := by omega
    by_cases h3 : e = 0
    · subst h3
      obtain ⟨n1, n2, n3⟩ := gvAt_next hg
      by_cases h4 : n ≤ 65536
      · have h4' : ¬ (65536 : Int) < n := by omega
        have w2 : IntKind.i64.wrap ((nx : Int) + 4) = ((nx + 4 : Nat) : Int) := by rw [wrap_i64 (by omega) (by omega)]; omega
        have w3 : IntKind.i64.wrap (n : Int) = (n : Int) := wrap_i64 (by omega) (by omega)
        have w4 : IntKind.i64.wrap (((nx + 4 : Nat) : Int) + (n : Int)) = ((nx + 4 + n : Nat) : Int) := by rw [wrap_i64 (by omega) (by omega)]; omega
        by_cases h5 : bs.length < nx + 4 + n
        · (refine FC.vc (envAt_ok) F_cartoucheref23_At T_cartoucheref23_At L_cartoucheref23_At ?_; unfold A_cartoucheref23_At; simp only [args0, zl0, zl1, zl2, zl3, zn1])
          (simp -implicitDefEqProofs +contextual (maxSteps := 8000000) only [go_sem, ↓reduceIte, zn0, zn1, zn2, zn3, zn4, reduceCtorEq, zn5, zi0, zi1, zi2, zi3, zi4, zn6, zn7, zn8, zn9, envAt, i_cartoucheref1_GetVarint, i_cartoucheref23_Frame, g_cartoucheref1_GetVarint_is, g_cartoucheref23_Frame_is, encGV, hb', hg, h1, hgx, k0, k0', h2', w1, h4', h5, w2, w3, w4, cut_enc, Option.some.injEq, forall_eq'])
          simp [encAt, encBs, atG, h5]
        · have l1 : (sl bs (nx + 4) (nx + 4 + n)).length ≤ 100000000000 := by simp [sl]; omega
          have l2 : (sl bs (nx + 4) (nx + 4 + n)).length ≤ 140737488355328 := by simp [sl]; omega
          have l3 : nx + 4 + n ≤ bs.length := by omega
          have l4 : k ≤ nx + 4 + n := by omega
          (refine FC.vc (envAt_ok) F_cartoucheref23_At T_cartoucheref23_At L_cartoucheref23_At ?_; unfold A_cartoucheref23_At; simp only [args0, zl0, zl1, zl2, zl3, zn1])
          (simp -implicitDefEqProofs +contextual (maxSteps := 8000000) only [go_sem, ↓reduceIte, zn0, zn1, zn2, zn3, zn4, reduceCtorEq, zn5, zi0, zi1, zi2, zi3, zi4, zn6, zn7, zn8, zn9, envAt, i_cartoucheref1_GetVarint, i_cartoucheref23_Frame, g_cartoucheref1_GetVarint_is, g_cartoucheref23_Frame_is, encGV, hb', hg, h1, hgx, k0, k0', h2', w1, h4', h5, w2, w3, w4, cut_enc, l1, l2, l3, l4, Nat.le_refl, Nat.le_add_right, Option.some.injEq, forall_eq'])
          refine ⟨fun h => by simp [encAt, encBs, atG, h5, h, show ¬ 65536 < n by omega], fun h => ⟨by omega, by simp [encAt, encBs, atG, h5, h, show ¬ 65536 < n by omega]⟩⟩
      · have h4' : (65536 : Int) < n := by omega
        (refine FC.vc (envAt_ok) F_cartoucheref23_At T_cartoucheref23_At L_cartoucheref23_At ?_; unfold A_cartoucheref23_At; simp only [args0, zl0, zl1, zl2, zl3, zn1])
        (simp -implicitDefEqProofs +contextual (maxSteps := 8000000) only [go_sem, ↓reduceIte, zn0, zn1, zn2, zn3, zn4, reduceCtorEq, zn5, zi0, zi1, zi2, zi3, zi4, zn6, zn7, zn8, zn9, envAt, i_cartoucheref1_GetVarint, i_cartoucheref23_Frame, g_cartoucheref1_GetVarint_is, g_cartoucheref23_Frame_is, encGV, hb', hg, h1, hgx, k0, k0', h2', w1, h4', cut_enc, Option.some.injEq, forall_eq'])
        simp [encAt, encBs, atG, show 65536 < n by omega]
    · (refine FC.vc (envAt_ok) F_cartoucheref23_At T_cartoucheref23_At L_cartoucheref23_At ?_; unfold A_cartoucheref23_At; simp only [args0, zl0, zl1, zl2, zl3, zn1])
      (simp -implicitDefEqProofs +contextual (maxSteps := 8000000) only [go_sem, ↓reduceIte, zn0, zn1, zn2, zn3, zn4, reduceCtorEq, zn5, zi0, zi1, zi2, zi3, zi4, zn6, zn7, zn8, zn9, envAt, i_cartoucheref1_GetVarint, i_cartoucheref23_Frame, g_cartoucheref1_GetVarint_is, g_cartoucheref23_Frame_is, encGV, hb', hg, h1, hgx, k0, k0', h2', w1, h3, cut_enc, Option.some.injEq, forall_eq'])
      simp [encAt, encBs, atG, h3]
  · have h2' : ¬ (b.toNat : Int) = 126 := by omega
    have hst : atR bs k = ([], 0, false) := by simp only [atR, hbk, h2, if_false]
    rw [hst]
    (refine FC.vc (envAt_ok) F_cartoucheref23_At T_cartoucheref23_At L_cartoucheref23_At ?_; unfold A_cartoucheref23_At; simp only [args0, zl0, zl1, zl2, zl3, zn1])
    (simp -implicitDefEqProofs +contextual (maxSteps := 8000000) only [go_sem, ↓reduceIte, zn0, zn1, zn2, zn3, zn4, reduceCtorEq, zn5, zi0, zi1, zi2, zi3, zi4, zn6, zn7, zn8, zn9, envAt, hb', h1, hgx, h2', h2, Option.some.injEq, forall_eq'])
    rfl
open Classical
noncomputable def g_cartoucheref23_At : List IV → Option IV
  | [.slice b_, .int .i64 k] => (match unBs b_ with
    | some b => if b.length ≤ 1000000000 ∧ 0 ≤ k ∧ k < b.length then some (encAt (atR b k.toNat)) else none
    | none => none)
  | _ => none
theorem g_cartoucheref23_At_is (b : List UInt8) (k : Int) : g_cartoucheref23_At [.slice (b.map encB), .int .i64 k] = if b.length ≤ 1000000000 ∧ 0 ≤ k ∧ k < b.length then some (encAt (atR b k.toNat)) else none := by
  simp only [g_cartoucheref23_At, unBs_enc]
theorem g_cartoucheref23_At_ok : ∀ xs r, g_cartoucheref23_At xs = some r → FC Try.prog i_cartoucheref23_At xs (· = r) := by
  intro xs r h
  unfold g_cartoucheref23_At at h
  split at h
  · rename_i b_ k
    split at h
    · rename_i b hb
      split at h
      · rename_i hpre
        injection h with h; subst h
        have := unBs_enc_inv hb; subst this
        obtain ⟨a, rfl⟩ := Int.eq_ofNat_of_zero_le hpre.2.1
        exact ref_at_fc b a hpre.1 (by omega)
      · cases h
    · cases h
  · cases h

end Go.Proofs.Ytinoaofgbkdohaa.Ag
namespace Go.Proofs.Ytinoaofgbkdohaa.Ag
def rdA (f : Nat → Option (List UInt8 × Nat)) (len : Nat) : Nat → Nat → Bss → Option Bss
  | 0, _, _ => none
  | n + 1, a, acc => if a < len then (match f a with
      | some (c, nx) => rdA f len n nx (acc ++ [c])
      | none => none) else some acc
def svA (f : Nat → Option (List UInt8 × Nat)) (len : Nat) : Nat → Nat → List Pt → Nat → List Pt × Nat
  | 0, _, acc, lost => (acc, lost)
  | n + 1, a, acc, lost => if a < len then (match f a with
      | some (c, nx) => svA f len n nx (acc ++ [⟨a, c⟩]) lost
      | none => svA f len n (a + 1) acc (lost + 1)) else (acc, lost)
def stF (bs : List UInt8) (a : Nat) : Option (List UInt8 × Nat) := if (stR bs a).2.2 then some (sl bs (stR bs a).1 (stR bs a).2.1, (stR bs a).2.1) else none
def atF (bs : List UInt8) (a : Nat) : Option (List UInt8 × Nat) := if (atR bs a).2.2 then some ((atR bs a).1, (atR bs a).2.1) else none
theorem stR_ok {bs : List UInt8} {a : Nat} (h : (stR bs a).2.2 = true) : a < (stR bs a).1 ∧ (stR bs a).1 ≤ (stR bs a).2.1 ∧ (stR bs a).2.1 ≤ bs.length := by
  unfold stR at h ⊢
  split at h
  · rename_i b hb
    split at h
    · rename_i h2
      simp only [h2, if_true]
      unfold stG at h ⊢
      split at h
      · cases h
      · rename_i h3
        split at h
        · cases h
        · rename_i h4
          rw [if_neg h3, if_neg h4]
          simp only [not_or, ne_eq, Decidable.not_not] at h3 h4
          rcases hg : gvAt bs ((a + 1 : Nat) : Int) with ⟨n, nx, e⟩
          rw [hg] at h3 h4
          simp only at h3 h4 ⊢
          obtain ⟨rfl, h5, h6⟩ := h3
          obtain ⟨g1, g2, g3⟩ := gvAt_next hg
          rcases hr : rdAt bs (nx : Int) 4 with ⟨x, f, e2⟩
          rw [hr] at h4
          simp only at h4 ⊢
          obtain ⟨rfl, h7⟩ := h4
          obtain ⟨_, r1, r2, _⟩ := rdAt_ok hr
          omega
    · cases h
  · cases h
theorem atR_ok {bs : List UInt8} {a : Nat} (h : (atR bs a).2.2 = true) : a < (atR bs a).2.1 ∧ (atR bs a).2.1 ≤ bs.length ∧ (atR bs a).1.length ≤ bs.length := by
  unfold atR at h ⊢
  split at h
  · rename_i b hb
    split at h
    · rename_i h2
      simp only [h2, if_true]
      unfold atG at h ⊢
      split at h
      · cases h
      · rename_i h3
        split at h
        · rename_i h4
          rw [if_neg h3, if_pos h4]
          simp only [not_or, ne_eq, Decidable.not_not] at h3
          rcases hg : gvAt bs ((a + 1 : Nat) : Int) with ⟨n, nx, e⟩
          rw [hg] at h3
          simp only at h3 ⊢
          obtain ⟨rfl, h5, h6⟩ := h3
          obtain ⟨g1, g2, g3⟩ := gvAt_next hg
          refine ⟨by omega, by omega, by simp [sl]; omega⟩
        · cases h
    · cases h
  · cases h
def encRd (r : Option Bss) : IV := match r with
  | some l => .tup [encL l, .int .i64 0]
  | none => .tup [.slice [], .int .i64 11]
def encRR (r : Option Bss) : IV := match r with
  | some l => .tup [encL l, .bool true]
  | none => .tup [.slice [], .bool false]
theorem encBs_one (b : List UInt8) : (encBs b).one = true := rfl
theorem oneBs : ∀ l : Bss, oneSize 1 (l.map encBs) = true
  | [] => rfl
  | b :: l => by
    have := oneBs l
    simp only [List.map_cons, oneSize, encBs, IV.cells, List.length_cons, List.length_nil] at this ⊢
    rw [this]; rfl
theorem onePt : ∀ l : List Pt, oneSize 2 (l.map encPt) = true
  | [] => rfl
  | b :: l => by
    have := onePt l
    simp only [List.map_cons, oneSize, encPt, IV.cells, List.length_cons, List.length_nil] at this ⊢
    rw [this]; rfl
noncomputable def envRd : Env := { fc := [(i_frame_stands, g_frame_stands)] }
theorem envRd_ok : EnvOk Try.prog envRd := EnvOk.none.addF g_frame_stands_ok
def RdI (bs : List UInt8) (res : Option Bss) (n : Nat) (s : St) : Prop := ∃ (v a : Nat) (acc : Bss), lk s.ρ 0 = some (.iv (.slice (bs.map encB))) ∧ lk s.ρ 4 = some (.lst 1 v) ∧ lk s.ρ 5 = some (.iv (.int .i64 (a : Int))) ∧
  lk s.σ 1 = some (v, .list 23 1 (acc.map encBs)) ∧ a ≤ bs.length ∧ bs.length < a + n ∧ acc.length ≤ a ∧ rdA (stF bs) bs.length n a acc = res
theorem read_f_fc (bs : List UInt8) (hb : bs.length ≤ 1000000000) : FC Try.prog i_frame_Read [.slice (bs.map encB)] (· = encRd (rdA (stF bs) bs.length (bs.length + 1) 0 [])) := by
  have hb' : bs.length ≤ 140737488351232 := by omega
  (refine FC.vc (envRd_ok) F_frame_Read T_frame_Read L_frame_Read ?_; unfold A_frame_Read; simp only [args0, zl0, zl1, zl2, zl3, zn1])
  (simp -implicitDefEqProofs +contextual (maxSteps := 8000000) only [go_sem, ↓reduceIte, zn0, zn1, zn2, zn3, zn4, reduceCtorEq, zn5, zi0, zi1, zi2, zi3, zi4, zn6, zn7, zn8, zn9, envRd])
  refine vc_loopN 4 1 23 1 (RdI bs _) (bs.length + 1) (by simp [lk]) ⟨0, 0, [], by simp [lk], by simp [lk, nxt], by simp [lk], by simp [lk, upd, nxt], by omega, by omega, by simp, rfl⟩ ?_
  rintro n s ⟨v, a, acc, h0, h4, h5, h1, g1, g2, g3, g4⟩
  obtain ⟨n, rfl⟩ : ∃ m, n = m + 1 := ⟨n - 1, by omega⟩
  rw [rdA] at g4
  by_cases ha : a < bs.length
  · rw [if_pos ha] at g4
    have hs := g_frame_stands_is bs (a : Int)
    rw [if_pos ⟨by omega, by omega, by omega⟩] at hs
    simp only [encST, Int.toNat_natCast] at hs
    rw [show stF bs a = (if (stR bs a).2.2 then some (sl bs (stR bs a).1 (stR bs a).2.1, (stR bs a).2.1) else none) from rfl] at g4
    rcases hst : stR bs a with ⟨p, q, ok⟩
    rw [hst] at g4 hs
    simp only at g4 hs
    cases ok with
    | true =>
      have hk := stR_ok (a := a) (bs := bs) (by rw [hst])
      rw [hst] at hk
      simp only at hk
      simp only [if_true] at g4
      have w1 : IntKind.i64.wrap ((q : Int) - (p : Int)) = ((q - p : Nat) : Int) := by rw [wrap_i64 (by omega) (by omega)]; omega
      have l1 : p ≤ q := hk.2.1
      have l2 : q ≤ bs.length := hk.2.2
      have l3 : (sl bs p q).length ≤ q - p := by simp [sl]; omega
      rcases hz : lk s.σ 0 with _ | ⟨v0, it0⟩
      all_goals
        (simp -implicitDefEqProofs +contextual (maxSteps := 8000000) only [go_sem, ↓reduceIte, zn0, zn1, zn2, zn3, zn4, reduceCtorEq, zn5, zi0, zi1, zi2, zi3, zi4, zn6, zn7, zn8, zn9, envRd, i_frame_stands, hs, h0, h4, h5, h1, ha, hz, w1, cut_enc, l1, l2, lk_upd, nxt, Nat.le_refl, Option.some.injEq, forall_eq'])
        refine ⟨by omega, by omega, by omega, n, by omega, v + 1, q, acc ++ [sl bs p q], by simp [lk, h0], by simp [lk], by simp [lk], by simp [lk_upd, encBs], by omega, by omega, by simp; omega, ?_⟩
        exact g4
    | false =>
      simp only [Bool.false_eq_true, if_false] at g4
      (simp -implicitDefEqProofs +contextual (maxSteps := 8000000) only [go_sem, ↓reduceIte, zn0, zn1, zn2, zn3, zn4, reduceCtorEq, zn5, zi0, zi1, zi2, zi3, zi4, zn6, zn7, zn8, zn9, envRd, i_frame_stands, hs, h0, h4, h5, h1, ha, Option.some.injEq, forall_eq'])
      rw [← g4]
      rfl
  · rw [if_neg ha] at g4
    rcases hz : lk s.σ 2 with _ | ⟨v0, it0⟩
    all_goals
      (simp -implicitDefEqProofs +contextual (maxSteps := 8000000) only [go_sem, ↓reduceIte, zn0, zn1, zn2, zn3, zn4, reduceCtorEq, zn5, zi0, zi1, zi2, zi3, zi4, zn6, zn7, zn8, zn9, envRd, h0, h4, h5, h1, ha, hz, lk_upd, nxt])
      rw [← g4]
      simp only [encRd, encL, true_and, and_true]
      exact ⟨by omega, oneBs acc, by omega⟩
noncomputable def envRR : Env := { fc := [(i_cartoucheref23_At, g_cartoucheref23_At)] }
theorem envRR_ok : EnvOk Try.prog envRR := EnvOk.none.addF g_cartoucheref23_At_ok
def RRI (bs : List UInt8) (res : Option Bss) (n : Nat) (s : St) : Prop := ∃ (v a : Nat) (acc : Bss), lk s.ρ 0 = some (.iv (.slice (bs.map encB))) ∧ lk s.ρ 4 = some (.lst 1 v) ∧ lk s.ρ 5 = some (.iv (.int .i64 (a : Int))) ∧
  lk s.σ 1 = some (v, .list 23 1 (acc.map encBs)) ∧ a ≤ bs.length ∧ bs.length < a + n ∧ acc.length ≤ a ∧ rdA (atF bs) bs.length n a acc = res
theorem ref_read_fc (bs : List UInt8) (hb : bs.length ≤ 1000000000) : FC Try.prog i_cartoucheref23_Read [.slice (bs.map encB)] (· = encRR (rdA (atF bs) bs.length (bs.length + 1) 0 [])) := by
  have hb' : bs.length ≤ 140737488351232 := by omega
  (refine FC.vc (envRR_ok) F_cartoucheref23_Read T_cartoucheref23_Read L_cartoucheref23_Read ?_; unfold A_cartoucheref23_Read; simp only [args0, zl0, zl1, zl2, zl3, zn1])
  (simp -implicitDefEqProofs +contextual (maxSteps := 8000000) only [go_sem, ↓reduceIte, zn0, zn1, zn2, zn3, zn4, reduceCtorEq, zn5, zi0, zi1, zi2, zi3, zi4, zn6, zn7, zn8, zn9, envRR])
  refine vc_loopN 4 1 23 1 (RRI bs _) (bs.length + 1) (by simp [lk]) ⟨0, 0, [], by simp [lk], by simp [lk, nxt], by simp [lk], by simp [lk, upd, nxt], by omega, by omega, by simp, rfl⟩ ?_
  rintro n s ⟨v, a, acc, h0, h4, h5, h1, g1, g2, g3, g4⟩
  obtain ⟨n, rfl⟩ : ∃ m, n = m + 1 := ⟨n - 1, by omega⟩
  rw [rdA] at g4
  by_cases ha : a < bs.length
  · rw [if_pos ha] at g4
    have hs := g_cartoucheref23_At_is bs (a : Int)
    rw [if_pos ⟨by omega, by omega, by omega⟩] at hs
    simp only [encAt, Int.toNat_natCast] at hs
    rw [show atF bs a = (if (atR bs a).2.2 then some ((atR bs a).1, (atR bs a).2.1) else none) from rfl] at g4
    rcases hst : atR bs a with ⟨c, q, ok⟩
    rw [hst] at g4 hs
    simp only at g4 hs
    cases ok with
    | true =>
      have hk := atR_ok (a := a) (bs := bs) (by rw [hst])
      rw [hst] at hk
      simp only at hk
      simp only [if_true] at g4
      simp only [encBs] at hs
      (simp -implicitDefEqProofs +contextual (maxSteps := 8000000) only [go_sem, ↓reduceIte, zn0, zn1, zn2, zn3, zn4, reduceCtorEq, zn5, zi0, zi1, zi2, zi3, zi4, zn6, zn7, zn8, zn9, envRR, i_cartoucheref23_At, hs, h0, h4, h5, h1, ha, lk_upd, nxt, Nat.le_refl, Option.some.injEq, forall_eq'])
      refine ⟨by omega, n, by omega, v + 1, q, acc ++ [c], by simp [lk, h0], by simp [lk], by simp [lk], by simp [lk_upd, encBs], by omega, by omega, by simp; omega, ?_⟩
      exact g4
    | false =>
      simp only [Bool.false_eq_true, if_false] at g4
      (simp -implicitDefEqProofs +contextual (maxSteps := 8000000) only [go_sem, ↓reduceIte, zn0, zn1, zn2, zn3, zn4, reduceCtorEq, zn5, zi0, zi1, zi2, zi3, zi4, zn6, zn7, zn8, zn9, envRR, i_cartoucheref23_At, hs, h0, h4, h5, h1, ha, Option.some.injEq, forall_eq'])
      rw [← g4]
      rfl
  · rw [if_neg ha] at g4
    (simp -implicitDefEqProofs +contextual (maxSteps := 8000000) only [go_sem, ↓reduceIte, zn0, zn1, zn2, zn3, zn4, reduceCtorEq, zn5, zi0, zi1, zi2, zi3, zi4, zn6, zn7, zn8, zn9, envRR, h0, h4, h5, h1, ha, lk_upd, nxt])
    rw [← g4]
    simp only [encRR, encL]
def encSv (r : List Pt × Nat) : IV := .tup [encPts r.1, .int .i64 (r.2 : Int)]
def RSI (bs : List UInt8) (res : List Pt × Nat) (n : Nat) (s : St) : Prop := ∃ (v a lost : Nat) (acc : List Pt), lk s.ρ 0 = some (.iv (.slice (bs.map encB))) ∧ lk s.ρ 4 = some (.lst 1 v) ∧ lk s.ρ 5 = some (.iv (.int .i64 (lost : Int))) ∧ lk s.ρ 6 = some (.iv (.int .i64 (a : Int))) ∧
  lk s.σ 1 = some (v, .list 60 2 (acc.map encPt)) ∧ a ≤ bs.length ∧ bs.length < a + n ∧ acc.length ≤ a ∧ lost ≤ a ∧ svA (atF bs) bs.length n a acc lost = res
theorem ref_salvage_fc (bs : List UInt8) (hb : bs.length ≤ 1000000000) : FC Try.prog i_cartoucheref23_Salvage [.slice (bs.map encB)] (· = encSv (svA (atF bs) bs.length (bs.length + 1) 0 [] 0)) := by
  have hb' : bs.length ≤ 140737488351232 := by omega
  (refine FC.vc (envRR_ok) F_cartoucheref23_Salvage T_cartoucheref23_Salvage L_cartoucheref23_Salvage ?_; unfold A_cartoucheref23_Salvage; simp only [args0, zl0, zl1, zl2, zl3, zn1])
  (simp -implicitDefEqProofs +contextual (maxSteps := 8000000) only [go_sem, ↓reduceIte, zn0, zn1, zn2, zn3, zn4, reduceCtorEq, zn5, zi0, zi1, zi2, zi3, zi4, zn6, zn7, zn8, zn9, envRR])
  refine vc_loopN 4 1 60 2 (RSI bs _) (bs.length + 1) (by simp [lk]) ⟨0, 0, 0, [], by simp [lk], by simp [lk, nxt], by simp [lk], by simp [lk], by simp [lk, upd, nxt], by omega, by omega, by simp, by omega, rfl⟩ ?_
  rintro n s ⟨v, a, lost, acc, h0, h4, h5, h6, h1, g1, g2, g3, g5, g4⟩
  obtain ⟨n, rfl⟩ : ∃ m, n = m + 1 := ⟨n - 1, by omega⟩
  rw [svA] at g4
  by_cases ha : a < bs.length
  · rw [if_pos ha] at g4
    have hs := g_cartoucheref23_At_is bs (a : Int)
    rw [if_pos ⟨by omega, by omega, by omega⟩] at hs
    simp only [encAt, Int.toNat_natCast] at hs
    rw [show atF bs a = (if (atR bs a).2.2 then some ((atR bs a).1, (atR bs a).2.1) else none) from rfl] at g4
    rcases hst : atR bs a with ⟨c, q, ok⟩
    rw [hst] at g4 hs
    simp only at g4 hs
    have w1 : IntKind.i64.wrap ((lost : Int) + 1) = ((lost + 1 : Nat) : Int) := by rw [wrap_i64 (by omega) (by omega)]; omega
    have w2 : IntKind.i64.wrap ((a : Int) + 1) = ((a + 1 : Nat) : Int) := by rw [wrap_i64 (by omega) (by omega)]; omega
    cases ok with
    | true =>
      have hk := atR_ok (a := a) (bs := bs) (by rw [hst])
      rw [hst] at hk
      simp only at hk
      simp only [if_true] at g4
      simp only [encBs] at hs
      (simp -implicitDefEqProofs +contextual (maxSteps := 8000000) only [go_sem, ↓reduceIte, zn0, zn1, zn2, zn3, zn4, reduceCtorEq, zn5, zi0, zi1, zi2, zi3, zi4, zn6, zn7, zn8, zn9, envRR, i_cartoucheref23_At, hs, h0, h4, h5, h6, h1, ha, lk_upd, nxt, Nat.le_refl, Option.some.injEq, forall_eq'])
      refine ⟨by omega, n, by omega, v + 1, q, lost, acc ++ [⟨a, c⟩], by simp [lk, h0], by simp [lk], by simp [lk, h5], by simp [lk], by simp [lk_upd, encPt, encBs], by omega, by omega, by simp; omega, by omega, ?_⟩
      exact g4
    | false =>
      simp only [Bool.false_eq_true, if_false] at g4
      (simp -implicitDefEqProofs +contextual (maxSteps := 8000000) only [go_sem, ↓reduceIte, zn0, zn1, zn2, zn3, zn4, reduceCtorEq, zn5, zi0, zi1, zi2, zi3, zi4, zn6, zn7, zn8, zn9, envRR, i_cartoucheref23_At, hs, h0, h4, h5, h6, h1, ha, w1, w2, lk_upd, Option.some.injEq, forall_eq'])
      exact ⟨n, by omega, v, a + 1, lost + 1, acc, by simp [lk, h0], by simp [lk, h4], by simp [lk], by simp [lk], by simp [h1], by omega, by omega, by omega, by omega, g4⟩
  · rw [if_neg ha] at g4
    (simp -implicitDefEqProofs +contextual (maxSteps := 8000000) only [go_sem, ↓reduceIte, zn0, zn1, zn2, zn3, zn4, reduceCtorEq, zn5, zi0, zi1, zi2, zi3, zi4, zn6, zn7, zn8, zn9, envRR, h0, h4, h5, h6, h1, ha, lk_upd, nxt])
    rw [← g4]
    simp only [encSv, encPts]
def wrA : Bss → List UInt8 → Option (List UInt8)
  | [], acc => some acc
  | c :: l, acc => if 65536 < c.length then none else wrA l (acc ++ frL c)
def szW (l : Bss) : Nat := (l.map fun c => c.length + 15).sum
theorem szW_cons (c : List UInt8) (l : Bss) : szW (c :: l) = c.length + 15 + szW l := by simp [szW]
theorem szW_len : ∀ l : Bss, 15 * l.length ≤ szW l
  | [] => by simp [szW]
  | c :: l => by have := szW_len l; rw [szW_cons]; simp; omega
theorem frL_len (c : List UInt8) (hc : c.length ≤ 100000000000) : (frL c).length ≤ c.length + 15 := by
  have := pvL_len10 (n := c.length) (by omega)
  have := wdL_len (sumOf c).toNat 4
  simp only [frL, List.length_cons, List.length_append]; omega
def encWr (r : Option (List UInt8)) : IV := match r with
  | some b => .tup [encBs b, .int .i64 0]
  | none => .tup [.slice [], .int .i64 1]
def encWR (r : Option (List UInt8)) : IV := match r with
  | some b => .tup [encBs b, .bool true]
  | none => .tup [.slice [], .bool false]
noncomputable def g_pvF : List IV → Option IV
  | [.int .u64 n] => if 0 ≤ n ∧ n < 18446744073709551616 then some (.slice ((pvL n.toNat).map encB)) else none
  | _ => none
theorem g_pvF_is (n : Int) : g_pvF [.int .u64 n] = if 0 ≤ n ∧ n < 18446744073709551616 then some (.slice ((pvL n.toNat).map encB)) else none := rfl
theorem g_pvF_ok : ∀ xs r, g_pvF xs = some r → FC Try.prog i_wire_PutVarint xs (· = r) := by
  intro xs r h
  unfold g_pvF at h
  split at h
  · rename_i n
    split at h
    · rename_i hpre
      injection h with h; subst h
      obtain ⟨m, rfl⟩ := Int.eq_ofNat_of_zero_le hpre.1
      exact putVarint_fc m (by omega)
    · cases h
  · cases h
noncomputable def envWr : Env := { fc := [(i_wire_PutVarint, g_pvF), (i_frame_Sum, g_frame_Sum), (i_frame_sum, g_frame_sum), (i_wire_PutFix32, g_wire_PutFix32)] }
theorem envWr_ok : EnvOk Try.prog envWr := (((EnvOk.none.addF g_wire_PutFix32_ok).addF g_frame_sum_ok).addF g_frame_Sum_ok).addF g_pvF_ok
def WrI (x : Bss) (n : Nat) (s : St) : Prop := ∃ (i v : Nat) (acc : List UInt8), lk s.ρ 8 = some (.iv (encL x)) ∧ lk s.ρ 9 = some (.iv (.int .i64 (x.length : Int))) ∧ lk s.ρ 10 = some (.iv (.int .i64 (i : Int))) ∧ lk s.ρ 4 = some (.lst 0 v) ∧
  lk s.σ 0 = some (v, .list 5 1 (acc.map encB)) ∧ i ≤ x.length ∧ x.length < i + n ∧ acc.length + szW (x.drop i) ≤ 100000000000000 ∧ wrA (x.drop i) acc = wrA x []
theorem write_fc (x : Bss) (hx : szW x ≤ 100000000000000) : FC Try.prog i_frame_Write [encL x] (· = encWr (wrA x [])) := by
  have hln := szW_len x
  (refine FC.vc (envWr_ok) F_frame_Write T_frame_Write L_frame_Write ?_; unfold A_frame_Write; simp only [args0, zl0, zl1, zl2, zl3, zn1])
  (simp -implicitDefEqProofs +contextual (maxSteps := 8000000) only [go_sem, ↓reduceIte, zn0, zn1, zn2, zn3, zn4, reduceCtorEq, zn5, zi0, zi1, zi2, zi3, zi4, zn6, zn7, zn8, zn9, encL, envWr])
  refine vc_loopN 4 0 5 1 (WrI x) (x.length + 1) (by simp [lk]) ⟨0, 0, [], by simp [lk, encL], by simp [lk], by simp [lk], by simp [lk, nxt], by simp [lk, upd, nxt], by omega, by omega, by simpa using hx, by simp⟩ ?_
  rintro n s ⟨i, v, acc, h8, h9, h10, h4, h0, g1, g2, g3, g4⟩
  simp only [encL] at h8
  by_cases hi : i < x.length
  · obtain ⟨c, hc⟩ : ∃ e, x[i]? = some e := ⟨x[i], by simp [hi]⟩
    have hw : IntKind.i64.wrap ((i : Int) + 1) = ((i + 1 : Nat) : Int) := by rw [wrap_i64 (by omega) (by omega)]; omega
    have hgx : (x.map encBs)[i]? = some (encBs c) := by simp [hc]
    simp only [encBs] at hgx
    have hd : x.drop i = c :: x.drop (i + 1) := by
      have := List.drop_eq_getElem_cons hi
      rw [this]; congr 1
      have h5 := List.getElem?_eq_getElem hi
      rw [h5] at hc; injection hc
    rw [hd, wrA] at g4
    rw [hd, szW_cons] at g3
    by_cases hl : 65536 < c.length
    · have hl' : (65536 : Int) < c.length := by omega
      rw [if_pos hl] at g4
      (simp -implicitDefEqProofs +contextual (maxSteps := 8000000) only [go_sem, ↓reduceIte, zn0, zn1, zn2, zn3, zn4, reduceCtorEq, zn5, zi0, zi1, zi2, zi3, zi4, zn6, zn7, zn8, zn9, encL, envWr, h8, h9, h10, h4, h0, hi, hgx, hl', hl, Option.some.injEq, forall_eq'])
      rw [← g4]; rfl
    · have hl' : ¬ (65536 : Int) < c.length := by omega
      rw [if_neg hl] at g4
      have w1 : IntKind.u64.wrap (c.length : Int) = (c.length : Int) := wrap_u64 (by omega) (by omega)
      have hp := pvL_len10 (n := c.length) (by omega)
      have c1 : (c.length : Int) < 18446744073709551616 := by omega
      have c2 : (pvL c.length).length ≤ 140737488351232 := by omega
      have c3 : c.length ≤ 140737488351232 := by omega
      have hsum : fnv (fnv fnv0 (pvL c.length)) c = sumOf c := (fnv_app _ _ _).symm
      have r0 := sumOf_range c
      have hwd := wdL_len (sumOf c).toNat 4
      rcases hz : lk s.σ 1 with _ | ⟨v0, it0⟩
      all_goals
        (simp -implicitDefEqProofs +contextual (maxSteps := 8000000) only [go_sem, ↓reduceIte, zn0, zn1, zn2, zn3, zn4, reduceCtorEq, zn5, zi0, zi1, zi2, zi3, zi4, zn6, zn7, zn8, zn9, encL, envWr, i_wire_PutVarint, i_frame_Sum, i_frame_sum, i_wire_PutFix32, g_pvF_is, g_frame_Sum_is, g_frame_sum_is, g_wire_PutFix32_is, h8, h9, h10, h4, h0, hi, hw, hgx, hl', hl, w1, c1, c2, c3, hsum, r0.1, r0.2, lk_upd, nxt, Option.some.injEq, forall_eq'])
        refine ⟨by omega, by omega, by omega, by omega, n - 1, by omega, i + 1, v + 1 + 1 + 1 + 1, acc ++ frL c, by simp [lk, h8, encL], by simp [lk, h9], by simp [lk], by simp [lk], ?_, by omega, by omega, ?_, g4⟩
        · simp only [lk_upd, if_true, frL, List.map_append, List.map_cons, enc126, List.append_assoc, List.cons_append, List.nil_append]
        · have := frL_len c (by omega)
          rw [List.length_append]; omega
  · have hd : x.drop i = [] := List.drop_eq_nil_of_le (by omega)
    rw [hd] at g4 g3
    simp only [wrA] at g4
    have hl : acc.length ≤ 100000000000000 := by omega
    rcases hz : lk s.σ 1 with _ | ⟨v0, it0⟩
    all_goals
      (simp -implicitDefEqProofs +contextual (maxSteps := 8000000) only [go_sem, ↓reduceIte, zn0, zn1, zn2, zn3, zn4, reduceCtorEq, zn5, zi0, zi1, zi2, zi3, zi4, zn6, zn7, zn8, zn9, encL, envWr, h8, h9, h10, h4, h0, hi, hz, nxt, lk_upd])
      rw [← g4]
      simp only [encWr, encBs, true_and, and_true]
      omega
noncomputable def envRW : Env := { fc := [(i_cartoucheref23_Frame, g_cartoucheref23_Frame)] }
theorem envRW_ok : EnvOk Try.prog envRW := EnvOk.none.addF g_cartoucheref23_Frame_ok
def RWI (x : Bss) (n : Nat) (s : St) : Prop := ∃ (i v : Nat) (acc : List UInt8), lk s.ρ 0 = some (.iv (encL x)) ∧ lk s.ρ 5 = some (.iv (.int .i64 (i : Int))) ∧ lk s.ρ 4 = some (.lst 0 v) ∧
  lk s.σ 0 = some (v, .list 5 1 (acc.map encB)) ∧ i ≤ x.length ∧ x.length < i + n ∧ acc.length + szW (x.drop i) ≤ 100000000000000 ∧ wrA (x.drop i) acc = wrA x []
theorem ref_write_fc (x : Bss) (hx : szW x ≤ 100000000000000) : FC Try.prog i_cartoucheref23_Write [encL x] (· = encWR (wrA x [])) := by
  have hln := szW_len x
  (refine FC.vc (envRW_ok) F_cartoucheref23_Write T_cartoucheref23_Write L_cartoucheref23_Write ?_; unfold A_cartoucheref23_Write; simp only [args0, zl0, zl1, zl2, zl3, zn1])
  (simp -implicitDefEqProofs +contextual (maxSteps := 8000000) only [go_sem, ↓reduceIte, zn0, zn1, zn2, zn3, zn4, reduceCtorEq, zn5, zi0, zi1, zi2, zi3, zi4, zn6, zn7, zn8, zn9, encL, envRW])
  refine vc_loopN 4 0 5 1 (RWI x) (x.length + 1) (by simp [lk]) ⟨0, 0, [], by simp [lk, encL], by simp [lk], by simp [lk, nxt], by simp [lk, upd, nxt], by omega, by omega, by simpa using hx, by simp⟩ ?_
  rintro n s ⟨i, v, acc, h8, h10, h4, h0, g1, g2, g3, g4⟩
  simp only [encL] at h8
  by_cases hi : i < x.length
  · obtain ⟨c, hc⟩ : ∃ e, x[i]? = some e := ⟨x[i], by simp [hi]⟩
    have hw : IntKind.i64.wrap ((i : Int) + 1) = ((i + 1 : Nat) : Int) := by rw [wrap_i64 (by omega) (by omega)]; omega
    have hgx : (x.map encBs)[i]? = some (encBs c) := by simp [hc]
    simp only [encBs] at hgx
    have hd : x.drop i = c :: x.drop (i + 1) := by
      have := List.drop_eq_getElem_cons hi
      rw [this]; congr 1
      have h5 := List.getElem?_eq_getElem hi
      rw [h5] at hc; injection hc
    rw [hd, wrA] at g4
    rw [hd, szW_cons] at g3
    by_cases hl : 65536 < c.length
    · have hl' : (65536 : Int) < c.length := by omega
      rw [if_pos hl] at g4
      (simp -implicitDefEqProofs +contextual (maxSteps := 8000000) only [go_sem, ↓reduceIte, zn0, zn1, zn2, zn3, zn4, reduceCtorEq, zn5, zi0, zi1, zi2, zi3, zi4, zn6, zn7, zn8, zn9, encL, envRW, h8, h10, h4, h0, hi, hgx, hl', hl, Option.some.injEq, forall_eq'])
      rw [← g4]; rfl
    · have hl' : ¬ (65536 : Int) < c.length := by omega
      rw [if_neg hl] at g4
      have c3 : c.length ≤ 100000000000 := by omega
      have := frL_len c c3
      (simp -implicitDefEqProofs +contextual (maxSteps := 8000000) only [go_sem, ↓reduceIte, zn0, zn1, zn2, zn3, zn4, reduceCtorEq, zn5, zi0, zi1, zi2, zi3, zi4, zn6, zn7, zn8, zn9, encL, envRW, i_cartoucheref23_Frame, g_cartoucheref23_Frame_is, h8, h10, h4, h0, hi, hw, hgx, hl', hl, c3, lk_upd, nxt, Option.some.injEq, forall_eq'])
      refine ⟨by omega, n - 1, by omega, i + 1, v + 1, acc ++ frL c, by simp [lk, h8, encL], by simp [lk], by simp [lk], by simp [lk_upd], by omega, by omega, by rw [List.length_append]; omega, g4⟩
  · have hd : x.drop i = [] := List.drop_eq_nil_of_le (by omega)
    rw [hd] at g4 g3
    simp only [wrA] at g4
    (simp -implicitDefEqProofs +contextual (maxSteps := 8000000) only [go_sem, ↓reduceIte, zn0, zn1, zn2, zn3, zn4, reduceCtorEq, zn5, zi0, zi1, zi2, zi3, zi4, zn6, zn7, zn8, zn9, encL, envRW, h8, h10, h4, h0, hi, nxt, lk_upd])
    rw [← g4]
    simp only [encWR, encBs]
noncomputable def g_frs : List IV → Option IV
  | [.slice b] => some (.fn (.func 29) [] [.ref (.slice b)])
  | _ => none
theorem g_frs_is (b : List IV) : g_frs [.slice b] = some (.fn (.func 29) [] [.ref (.slice b)]) := rfl
theorem g_frs_ok : ∀ xs r, g_frs xs = some r → FC Try.prog i_frame_frames xs (· = r) := by
  intro xs r h
  unfold g_frs at h
  split at h
  · rename_i b
    injection h with h; subst h
    (refine FC.vc (envN_ok) F_frame_frames T_frame_frames L_frame_frames ?_; unfold A_frame_frames; simp only [args0, zl0, zl1, zl2, zl3, zn1])
    (simp -implicitDefEqProofs +contextual (maxSteps := 8000000) only [go_sem, ↓reduceIte, zn0, zn1, zn2, zn3, zn4, reduceCtorEq, zn5, zi0, zi1, zi2, zi3, zi4, zn6, zn7, zn8, zn9, envN])
  · cases h
noncomputable def envIt : Env := { fc := [(i_frame_stands, g_frame_stands), (i_bytes_Clone, g_bytes_Clone)], xt := fun N p c Q s => wpc Try.prog (.ext N p c) Q s }
theorem envIt_ok : EnvOk Try.prog envIt := ((EnvOk.none.addF g_bytes_Clone_ok).addF g_frame_stands_ok).addX
def ItI (bs : List UInt8) (l : Nat) (J : Nat → Nat → Slots → Prop) (n : Nat) (s : St) : Prop := ∃ a : Nat, lk s.ρ 0 = some (.iv (.fn (.yield l) [] [])) ∧ lk s.ρ 1 = some (.iv (.ref (.slice (bs.map encB)))) ∧ lk s.ρ 3 = some (.iv (.int .i64 (a : Int))) ∧
  J n a s.σ ∧ a ≤ bs.length ∧ bs.length < a + n
theorem iter_gcx (bs : List UInt8) (hb : bs.length ≤ 100000000000000) (p : Prm) (l : Nat) (J : Nat → Nat → Slots → Prop)
    (hY : ∀ (n a : Nat) (σ : Slots) (c : List UInt8) (nx : Nat), J (n + 1) a σ → a < bs.length → stF bs a = some (c, nx) → YC p Try.prog l [.iv (.int .i64 (a : Int)), .iv (.slice (c.map encB))] σ (fun σ' => J n nx σ'))
    (hS : ∀ (n a : Nat) (σ : Slots), J (n + 1) a σ → a < bs.length → stF bs a = none → J n (a + 1) σ) (σ0 : Slots) (h0 : J (bs.length + 1) 0 σ0) :
    GCX p Try.prog i_frame_frames_1 [.iv (.fn (.yield l) [] []), .iv (.ref (.slice (bs.map encB)))] σ0 (fun r σ' => ∃ n a, bs.length ≤ a ∧ J (n + 1) a σ') := by
  have hb' : bs.length ≤ 140737488351232 := by omega
  refine GCXvc envIt_ok F_frame_frames_1 (T_frame_frames_1 p) L_frame_frames_1 ?_
  unfold A_frame_frames_1; simp only [args0, zl0, zl1, zl2, zl3, zn1]
  (simp -implicitDefEqProofs +contextual (maxSteps := 8000000) only [go_sem, ↓reduceIte, zn0, zn1, zn2, zn3, zn4, reduceCtorEq, zn5, zi0, zi1, zi2, zi3, zi4, zn6, zn7, zn8, zn9, envIt])
  refine vc_loop (ItI bs l J) (bs.length + 1) ⟨0, by simp [lk], by simp [lk], by simp [lk], h0, by omega, by omega⟩ ?_
  rintro n s ⟨a, t0, t1, t3, hJ, g1, g2⟩
  obtain ⟨n, rfl⟩ : ∃ m, n = m + 1 := ⟨n - 1, by omega⟩
  by_cases ha : a < bs.length
  · have hs := g_frame_stands_is bs (a : Int)
    rw [if_pos ⟨by omega, by omega, by omega⟩] at hs
    simp only [encST, Int.toNat_natCast] at hs
    have hF : stF bs a = (if (stR bs a).2.2 then some (sl bs (stR bs a).1 (stR bs a).2.1, (stR bs a).2.1) else none) := rfl
    rcases hst : stR bs a with ⟨f, q, ok⟩
    rw [hst] at hF hs
    simp only at hF hs
    have w1 : IntKind.i64.wrap ((a : Int) + 1) = ((a + 1 : Nat) : Int) := by rw [wrap_i64 (by omega) (by omega)]; omega
    cases ok with
    | true =>
      have hk := stR_ok (a := a) (bs := bs) (by rw [hst])
      rw [hst] at hk
      simp only at hk
      simp only [if_true] at hF
      (simp -implicitDefEqProofs +contextual (maxSteps := 8000000) only [go_sem, ↓reduceIte, zn0, zn1, zn2, zn3, zn4, reduceCtorEq, zn5, zi0, zi1, zi2, zi3, zi4, zn6, zn7, zn8, zn9, envIt, i_frame_stands, hs, t0, t1, t3, ha, Option.some.injEq, forall_eq'])
      refine wpc_yield (pre := (o_frame_frames_1_5.toList).take 8) (o := (o_frame_frames_1_5.toList).getD 8 default) (post := (o_frame_frames_1_5.toList).drop 9) (ch1 := []) (ch2 := []) (is1 := is_frame_frames_1_5.take 8) (is2 := is_frame_frames_1_5.drop 9)
        (fo := .tmp 22) (f' := .t 22) (args := #[.tmp 23, .tmp 29]) (tys := #[3, 23]) (as_ := [.t 23, .t 29]) (d := 30) (by kernel_rfl) (by kernel_rfl) (by kernel_rfl) (by kernel_rfl) (fun k h => by cases h) (by kernel_rfl) (by kernel_rfl) (by kernel_rfl) (by kernel_rfl) (by omega) ?_
      refine vcR_ok envIt_ok ?_
      have l1 : f ≤ q := hk.2.1
      have l2 : q ≤ bs.length := hk.2.2
      have l3 : (sl bs f q).length ≤ 140737488351232 := by simp [sl]; omega
      simp only [is_frame_frames_1_5, List.take_succ_cons, List.take_zero, List.drop_succ_cons, List.drop_zero]
      (simp -implicitDefEqProofs +contextual (maxSteps := 8000000) only [go_sem, ↓reduceIte, zn0, zn1, zn2, zn3, zn4, reduceCtorEq, zn5, zi0, zi1, zi2, zi3, zi4, zn6, zn7, zn8, zn9, envIt, i_frame_stands, i_bytes_Clone, g_bytes_Clone_is, t0, t1, t3, cut_enc, l1, l2, l3, Nat.le_refl, Option.some.injEq, forall_eq'])
      refine ⟨l, _, _, rfl, rfl, hY n a s.σ _ _ hJ ha hF, fun σ' hR => ?_⟩
      refine vcR_ok envIt_ok ?_
      (simp -implicitDefEqProofs +contextual (maxSteps := 8000000) only [go_sem, ↓reduceIte, zn0, zn1, zn2, zn3, zn4, reduceCtorEq, zn5, zi0, zi1, zi2, zi3, zi4, zn6, zn7, zn8, zn9, envIt, i_frame_stands, i_bytes_Clone, t0, t1, t3])
      exact ⟨n, by omega, q, by simp [lk, t0], by simp [lk, t1], by simp [lk], hR, by omega, by omega⟩
    | false =>
      simp only [Bool.false_eq_true, if_false] at hF
      (simp -implicitDefEqProofs +contextual (maxSteps := 8000000) only [go_sem, ↓reduceIte, zn0, zn1, zn2, zn3, zn4, reduceCtorEq, zn5, zi0, zi1, zi2, zi3, zi4, zn6, zn7, zn8, zn9, envIt, i_frame_stands, hs, t0, t1, t3, ha, w1, Option.some.injEq, forall_eq'])
      exact ⟨n, by omega, a + 1, by simp [lk, t0], by simp [lk, t1], by simp [lk], hS n a s.σ hJ ha hF, by omega, by omega⟩
  · (simp -implicitDefEqProofs +contextual (maxSteps := 8000000) only [go_sem, ↓reduceIte, zn0, zn1, zn2, zn3, zn4, reduceCtorEq, zn5, zi0, zi1, zi2, zi3, zi4, zn6, zn7, zn8, zn9, envIt, t0, t1, t3, ha])
    exact ⟨n, a, by omega, hJ⟩
end Go.Proofs.Ytinoaofgbkdohaa.Ag
