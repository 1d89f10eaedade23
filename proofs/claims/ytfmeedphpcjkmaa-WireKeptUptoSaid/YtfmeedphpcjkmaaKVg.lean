/- What the one-step walk reads of functions' contracts. -/
import Derived.Test.YtfmeedphpcjkmaaWE
import Derived.Test.YtfmeedphpcjkmaaKAir
import Derived.Test.YtfmeedphpcjkmaaAgNG
import Derived.Test.YtfmeedphpcjkmaaWRd
set_option linter.unusedVariables false
set_option linter.unusedSimpArgs false
namespace Go.Proofs.Ytfmeedphpcjkmaa.Ag
open Classical
noncomputable def g_wire_Span : List IV → Option IV
  | [.slice b_, .int .i64 k] => (match unBs b_ with
    | some b => if b.length ≤ 140737488351232 then some (encSP (spAt b k)) else none
    | none => none)
  | _ => none
theorem g_wire_Span_is (b : List UInt8) (k : Int) : g_wire_Span [.slice (b.map encB), .int .i64 k] = if b.length ≤ 140737488351232 then some (encSP (spAt b k)) else none := by
  simp only [g_wire_Span, unBs_enc]
theorem g_wire_Span_ok : ∀ xs r, g_wire_Span xs = some r → FC Try.prog i_wire_Span xs (· = r) := by
  intro xs r h
  unfold g_wire_Span at h
  split at h
  · rename_i b_ k
    split at h
    · rename_i b hb
      split at h
      · rename_i hpre
        injection h with h; subst h
        have := unBs_enc_inv hb; subst this
        exact span_fc b k (by omega)
      · cases h
    · cases h
  · cases h

end Go.Proofs.Ytfmeedphpcjkmaa.Ag
set_option linter.unusedVariables false
set_option linter.unusedSimpArgs false
set_option maxRecDepth 100000
set_option maxHeartbeats 4000000
namespace Go.Proofs.Ytfmeedphpcjkmaa.Ag
noncomputable def envKC : Env := { fc := [(i_wire_Span, g_wire_Span)] }
theorem envKC_ok : EnvOk Try.prog envKC := EnvOk.none.addF g_wire_Span_ok
theorem sl_enc (bs : List UInt8) (i j : Nat) : cut (bs.map encB) i j = ((bs.drop i).take (j - i)).map encB := by simp [cut]
theorem getChunk_oc (b : List UInt8) (k : Int) (hb : b.length ≤ 140737488351232) : OC Try.prog i_wire_GetChunk [.slice (b.map encB), .int .i64 k] 5 1 ((gcAt b k).1.map encB) [.int .i64 ((gcAt b k).2.1 : Int), .int .i64 ((gcAt b k).2.2 : Int)] := by
  have hnx := fun n p => @spAt_ok b k n p
  have hsp : gcAt b k = gcT b (spAt b k) := rfl
  rcases hg : spAt b k with ⟨p, q, e⟩
  rw [hg] at hnx
  rw [hsp, hg]
  have hs := g_wire_Span_is b k
  rw [if_pos hb, hg] at hs
  simp only [encSP] at hs
  by_cases he : e = 0
  · subst he
    obtain ⟨_, _, hp, hq⟩ := hnx p q rfl
    have w1 : IntKind.i64.wrap ((q : Int) - (p : Int)) = ((q - p : Nat) : Int) := by rw [wrap_i64 (by omega) (by omega)]; omega
    (refine OC.vc (envKC_ok) F_wire_GetChunk T_wire_GetChunk L_wire_GetChunk ?_; unfold A_wire_GetChunk; simp only [args0, List.map_cons, List.map_nil, List.zipIdx_cons, List.zipIdx_nil, Nat.reduceAdd])
    (simp -implicitDefEqProofs +contextual (maxSteps := 8000000) only [go_sem, ↓reduceIte, Nat.reduceEqDiff, Nat.reduceAdd, Nat.reduceSub, Nat.reduceLeDiff, Nat.reduceMul, reduceCtorEq, Nat.reduceBEq, Int.reduceLT, Int.reduceLE, Int.reduceNeg, Int.reduceEq, Int.reduceToNat, Nat.reducePow, Nat.reduceLT, Nat.reduceDiv, Nat.reduceMod, envKC, i_wire_Span, hs, w1, hp, hq, sl_enc, Nat.le_refl, Option.some.injEq, forall_eq'])
    simp [gcT]
    omega
  · have he' : ¬ ((e : Int) = 0) := by omega
    (refine OC.vc (envKC_ok) F_wire_GetChunk T_wire_GetChunk L_wire_GetChunk ?_; unfold A_wire_GetChunk; simp only [args0, List.map_cons, List.map_nil, List.zipIdx_cons, List.zipIdx_nil, Nat.reduceAdd])
    (simp -implicitDefEqProofs +contextual (maxSteps := 8000000) only [go_sem, ↓reduceIte, Nat.reduceEqDiff, Nat.reduceAdd, Nat.reduceSub, Nat.reduceLeDiff, Nat.reduceMul, reduceCtorEq, Nat.reduceBEq, Int.reduceLT, Int.reduceLE, Int.reduceNeg, Int.reduceEq, Int.reduceToNat, Nat.reducePow, Nat.reduceLT, Nat.reduceDiv, Nat.reduceMod, envKC, i_wire_Span, hs, he, he', Option.some.injEq, forall_eq'])
    simp [gcT, he]
noncomputable def envKP : Env := { fc := [(i_wire_Size, g_wire_Size)], lc := [(i_wire_varint, g_wire_varint)] }
theorem envKP_ok : EnvOk Try.prog envKP := (EnvOk.none.addL g_wire_varint_ok).addF g_wire_Size_ok
theorem putChunk_oc (b : List UInt8) (hb : b.length ≤ 1000000000) : OC Try.prog i_wire_PutChunk [.slice (b.map encB)] 5 1 ((pcL b).map encB) [] := by
  have w1 : IntKind.u64.wrap (b.length : Int) = (b.length : Int) := wrap_u64 (by omega) (by omega)
  have c1 : (b.length : Int) < 18446744073709551616 := by omega
  have hp := pvL_len10 (n := b.length) (by omega)
  have w2 : IntKind.i64.wrap (((pvL b.length).length : Int) + (b.length : Int)) = (((pvL b.length).length + b.length : Nat) : Int) := by rw [wrap_i64 (by omega) (by omega)]; omega
  (refine OC.vc (envKP_ok) F_wire_PutChunk T_wire_PutChunk L_wire_PutChunk ?_; unfold A_wire_PutChunk; simp only [args0, List.map_cons, List.map_nil, List.zipIdx_cons, List.zipIdx_nil, Nat.reduceAdd])
  (simp -implicitDefEqProofs +contextual (maxSteps := 8000000) only [go_sem, ↓reduceIte, Nat.reduceEqDiff, Nat.reduceAdd, Nat.reduceSub, Nat.reduceLeDiff, Nat.reduceMul, reduceCtorEq, Nat.reduceBEq, Int.reduceLT, Int.reduceLE, Int.reduceNeg, Int.reduceEq, Int.reduceToNat, Nat.reducePow, Nat.reduceLT, Nat.reduceDiv, Nat.reduceMod, envKP, i_wire_Size, i_wire_varint, g_wire_Size_is, g_wire_varint_is, w1, w2, c1])
  refine ⟨by omega, by omega, by simp [pcL]⟩
noncomputable def g_gcO : List IV → Option (Nat × Nat × List IV × List IV)
  | [.slice b_, .int .i64 k] => match unBs b_ with
    | some b => if b.length ≤ 140737488351232 then some (5, 1, (gcAt b k).1.map encB, [.int .i64 ((gcAt b k).2.1 : Int), .int .i64 ((gcAt b k).2.2 : Int)]) else none
    | none => none
  | _ => none
theorem g_gcO_is (b : List UInt8) (k : Int) : g_gcO [.slice (b.map encB), .int .i64 k] = if b.length ≤ 140737488351232 then some (5, 1, (gcAt b k).1.map encB, [.int .i64 ((gcAt b k).2.1 : Int), .int .i64 ((gcAt b k).2.2 : Int)]) else none := by
  simp only [g_gcO, unBs_enc]
theorem g_gcO_ok : ∀ xs e sz zs rets, g_gcO xs = some (e, sz, zs, rets) → OC Try.prog i_wire_GetChunk xs e sz zs rets := by
  intro xs e sz zs rets h
  unfold g_gcO at h
  split at h
  · rename_i b_ k
    split at h
    · rename_i b hb
      split at h
      · rename_i hpre
        simp only [Option.some.injEq, Prod.mk.injEq] at h
        obtain ⟨rfl, rfl, rfl, rfl⟩ := h
        have := unBs_enc_inv hb
        subst this
        exact getChunk_oc b k hpre
      · cases h
    · cases h
  · cases h
noncomputable def envKE : Env := { fc := [(i_wire_GetTag, g_wire_GetTag), (i_wire_GetVarint, g_wire_GetVarint), (i_wire_read, g_wire_read)], oc := [(i_wire_GetChunk, g_gcO)] }
theorem envKE_ok : EnvOk Try.prog envKE := (((EnvOk.none.addF g_wire_read_ok).addF g_wire_GetVarint_ok).addF g_wire_GetTag_ok).addO g_gcO_ok
def entT (e : Ent) (p : Nat) : TV := if e.kind = 2 then .agg [.iv (.int .i64 e.num), .iv (.int .i64 e.kind), .iv (.int .u64 e.n), .lst p 0] else .iv (.agg [.int .i64 e.num, .int .i64 e.kind, .int .u64 e.n, .nil])
def placeE (b : List UInt8) (k : Int) : Option (Nat × Item) := if (gtAt b k).2.2.2 = 0 ∧ (gtAt b k).2.1 ≠ 0 ∧ (gtAt b k).2.1 ≠ 1 ∧ (gtAt b k).2.1 ≠ 5 then some (0, .list 5 1 ((gcAt b ((gtAt b k).2.2.1 : Int)).1.map encB)) else none
def resE (b : List UInt8) (k : Int) (p : Nat) : TV := .tup [entT (geAt b k).1 p, .iv (.int .i64 ((geAt b k).2.1 : Int)), .iv (.int .i64 ((geAt b k).2.2 : Int))]
def QE (b : List UInt8) (k : Int) (p : Nat) (σ : Slots) (d : Nat → Bool) (r : TV) (σ' : Slots) : Prop :=
  r = resE b k p ∧ (∀ x, d x = false → x ≠ p → lk σ' x = lk σ x) ∧ lk σ' p = placeE b k
def putE (b : List UInt8) (k : Int) (p : Nat) (σ : Slots) : Slots := match placeE b k with
  | some x => upd σ p x
  | none => σ
def dE (x : Nat) : Bool := decide (x = 40) || decide (x = 1026)
theorem getEntry_raw (b : List UInt8) (k : Int) (σ : Slots) (hb : b.length ≤ 140737488351232) (h40 : lk σ 40 = none) (h26 : lk σ 1026 = none) : GC Try.prog i_wire_GetEntry [.iv (.slice (b.map encB)), .iv (.int .i64 k)] σ (QE b k 1026 σ dE) := by
  refine GC.vc envKE_ok F_wire_GetEntry_k T_wire_GetEntry_k L_wire_GetEntry_k ?_
  have hT := g_wire_GetTag_is b k
  rw [if_pos hb] at hT
  have hge : geAt b k = if (gtAt b k).2.2.2 = 0 then restAt b (gtAt b k).1 (gtAt b k).2.1 (gtAt b k).2.2.1 else (ent0, 0, (gtAt b k).2.2.2) := rfl
  have hkinds := fun m kk q => @gtAt_inv b k.toNat m kk q
  have hk0 : (gtAt b k).2.2.2 = 0 → 0 ≤ k := by
    intro h
    have : gtAt b k = gtT (gvAt b k) := rfl
    rcases hg : gvAt b k with ⟨n, p, e⟩
    rw [this, hg] at h
    by_cases he : e = 0
    · subst he; exact (gvAt_next hg).1
    · unfold gtT at h; simp [he] at h
  rcases hg : gtAt b k with ⟨num, kind, nx, er⟩
  rw [hg] at hT hge hk0
  simp only [encGT] at hT
  unfold A_wire_GetEntry_k; simp only [args0, List.map_cons, List.map_nil, List.zipIdx_cons, List.zipIdx_nil, Nat.reduceAdd]
  by_cases her : er = 0
  · subst her
    have hk := hk0 rfl
    have hkk := hkinds num kind nx (by rw [Int.toNat_of_nonneg hk]; exact hg)
    obtain ⟨_, _, _, _, _, _, hisK⟩ := hkk
    simp only [if_true] at hge
    by_cases c0 : kind = 0
    · subst c0
      have hV := g_wire_GetVarint_is b (nx : Int)
      rw [if_pos hb] at hV
      rcases hv : gvAt b (nx : Int) with ⟨n, p, e⟩
      rw [hv] at hV
      simp only [encGV] at hV
      simp only [restAt, if_true, hv, fin3] at hge
      by_cases he0 : e = 0
      · subst he0
        simp only [if_true] at hge
        have he0 : True := trivial
        (simp -implicitDefEqProofs +contextual (maxSteps := 8000000) only [go_sem, ↓reduceIte, Nat.reduceEqDiff, Nat.reduceAdd, Nat.reduceSub, Nat.reduceLeDiff, Nat.reduceMul, reduceCtorEq, Nat.reduceBEq, Int.reduceLT, Int.reduceLE, Int.reduceNeg, Int.reduceEq, Int.reduceToNat, Nat.reducePow, Nat.reduceLT, Nat.reduceDiv, Nat.reduceMod, Option.map_none, encGT, encGV, envKE, i_wire_GetTag, i_wire_GetVarint, i_wire_read, i_wire_GetChunk, h40, h26, lk_upd, nxt, hb, hT, hV])
        rw [QE]
        refine ⟨by simp [resE, hge, entT, ent0], fun x hx hxp => ?_, by simp [placeE, hg, lk_upd, h26]⟩
        simp only [dE, Bool.or_eq_false_iff, decide_eq_false_iff_not] at hx
        simp [lk_upd, Ne.symm hx.1, Ne.symm hx.2]
      · have he' : ¬ (e : Int) = 0 := by omega
        simp only [he0, if_false] at hge
        (simp -implicitDefEqProofs +contextual (maxSteps := 8000000) only [go_sem, ↓reduceIte, Nat.reduceEqDiff, Nat.reduceAdd, Nat.reduceSub, Nat.reduceLeDiff, Nat.reduceMul, reduceCtorEq, Nat.reduceBEq, Int.reduceLT, Int.reduceLE, Int.reduceNeg, Int.reduceEq, Int.reduceToNat, Nat.reducePow, Nat.reduceLT, Nat.reduceDiv, Nat.reduceMod, Option.map_none, encGT, encGV, envKE, i_wire_GetTag, i_wire_GetVarint, i_wire_read, i_wire_GetChunk, h40, h26, lk_upd, nxt, hb, hT, hV, he0, he'])
        rw [QE]
        refine ⟨by simp [resE, hge, entT, ent0], fun x hx hxp => ?_, by simp [placeE, hg, lk_upd, h26]⟩
        simp only [dE, Bool.or_eq_false_iff, decide_eq_false_iff_not] at hx
        simp [lk_upd, Ne.symm hx.1, Ne.symm hx.2]
    by_cases c1 : kind = 1
    · subst c1
      have hV := g_wire_read_is b (nx : Int) 8
      rw [if_pos ⟨hb, by omega, by omega⟩, show (8 : Int).toNat = 8 from rfl] at hV
      rcases hv : rdAt b (nx : Int) 8 with ⟨n, p, e⟩
      rw [hv] at hV
      simp only [encGV] at hV
      simp only [restAt, if_true, hv, fin3, show ¬ (1 : Nat) = 0 by omega, if_false] at hge
      by_cases he0 : e = 0
      · subst he0
        simp only [if_true] at hge
        have he0 : True := trivial
        (simp -implicitDefEqProofs +contextual (maxSteps := 8000000) only [go_sem, ↓reduceIte, Nat.reduceEqDiff, Nat.reduceAdd, Nat.reduceSub, Nat.reduceLeDiff, Nat.reduceMul, reduceCtorEq, Nat.reduceBEq, Int.reduceLT, Int.reduceLE, Int.reduceNeg, Int.reduceEq, Int.reduceToNat, Nat.reducePow, Nat.reduceLT, Nat.reduceDiv, Nat.reduceMod, Option.map_none, encGT, encGV, envKE, i_wire_GetTag, i_wire_GetVarint, i_wire_read, i_wire_GetChunk, h40, h26, lk_upd, nxt, hb, hT, hV])
        rw [QE]
        refine ⟨by simp [resE, hge, entT, ent0], fun x hx hxp => ?_, by simp [placeE, hg, lk_upd, h26]⟩
        simp only [dE, Bool.or_eq_false_iff, decide_eq_false_iff_not] at hx
        simp [lk_upd, Ne.symm hx.1, Ne.symm hx.2]
      · have he' : ¬ (e : Int) = 0 := by omega
        simp only [he0, if_false] at hge
        (simp -implicitDefEqProofs +contextual (maxSteps := 8000000) only [go_sem, ↓reduceIte, Nat.reduceEqDiff, Nat.reduceAdd, Nat.reduceSub, Nat.reduceLeDiff, Nat.reduceMul, reduceCtorEq, Nat.reduceBEq, Int.reduceLT, Int.reduceLE, Int.reduceNeg, Int.reduceEq, Int.reduceToNat, Nat.reducePow, Nat.reduceLT, Nat.reduceDiv, Nat.reduceMod, Option.map_none, encGT, encGV, envKE, i_wire_GetTag, i_wire_GetVarint, i_wire_read, i_wire_GetChunk, h40, h26, lk_upd, nxt, hb, hT, hV, he0, he'])
        rw [QE]
        refine ⟨by simp [resE, hge, entT, ent0], fun x hx hxp => ?_, by simp [placeE, hg, lk_upd, h26]⟩
        simp only [dE, Bool.or_eq_false_iff, decide_eq_false_iff_not] at hx
        simp [lk_upd, Ne.symm hx.1, Ne.symm hx.2]
    by_cases c5 : kind = 5
    · subst c5
      have hV := g_wire_read_is b (nx : Int) 4
      rw [if_pos ⟨hb, by omega, by omega⟩, show (4 : Int).toNat = 4 from rfl] at hV
      rcases hv : rdAt b (nx : Int) 4 with ⟨n, p, e⟩
      rw [hv] at hV
      simp only [encGV] at hV
      simp only [restAt, if_true, hv, fin3, show ¬ (5 : Nat) = 0 by omega, show ¬ (5 : Nat) = 1 by omega, if_false] at hge
      by_cases he0 : e = 0
      · subst he0
        simp only [if_true] at hge
        have he0 : True := trivial
        (simp -implicitDefEqProofs +contextual (maxSteps := 8000000) only [go_sem, ↓reduceIte, Nat.reduceEqDiff, Nat.reduceAdd, Nat.reduceSub, Nat.reduceLeDiff, Nat.reduceMul, reduceCtorEq, Nat.reduceBEq, Int.reduceLT, Int.reduceLE, Int.reduceNeg, Int.reduceEq, Int.reduceToNat, Nat.reducePow, Nat.reduceLT, Nat.reduceDiv, Nat.reduceMod, Option.map_none, encGT, encGV, envKE, i_wire_GetTag, i_wire_GetVarint, i_wire_read, i_wire_GetChunk, h40, h26, lk_upd, nxt, hb, hT, hV])
        rw [QE]
        refine ⟨by simp [resE, hge, entT, ent0], fun x hx hxp => ?_, by simp [placeE, hg, lk_upd, h26]⟩
        simp only [dE, Bool.or_eq_false_iff, decide_eq_false_iff_not] at hx
        simp [lk_upd, Ne.symm hx.1, Ne.symm hx.2]
      · have he' : ¬ (e : Int) = 0 := by omega
        simp only [he0, if_false] at hge
        (simp -implicitDefEqProofs +contextual (maxSteps := 8000000) only [go_sem, ↓reduceIte, Nat.reduceEqDiff, Nat.reduceAdd, Nat.reduceSub, Nat.reduceLeDiff, Nat.reduceMul, reduceCtorEq, Nat.reduceBEq, Int.reduceLT, Int.reduceLE, Int.reduceNeg, Int.reduceEq, Int.reduceToNat, Nat.reducePow, Nat.reduceLT, Nat.reduceDiv, Nat.reduceMod, Option.map_none, encGT, encGV, envKE, i_wire_GetTag, i_wire_GetVarint, i_wire_read, i_wire_GetChunk, h40, h26, lk_upd, nxt, hb, hT, hV, he0, he'])
        rw [QE]
        refine ⟨by simp [resE, hge, entT, ent0], fun x hx hxp => ?_, by simp [placeE, hg, lk_upd, h26]⟩
        simp only [dE, Bool.or_eq_false_iff, decide_eq_false_iff_not] at hx
        simp [lk_upd, Ne.symm hx.1, Ne.symm hx.2]
    have c2 : kind = 2 := by
      simp only [isK, Bool.or_eq_true, decide_eq_true_eq] at hisK
      omega
    subst c2
    have hV := g_gcO_is b (nx : Int)
    rw [if_pos hb] at hV
    rcases hv : gcAt b (nx : Int) with ⟨cb, p, e⟩
    rw [hv] at hV
    simp only at hV
    simp only [restAt, hv, finC, show ¬ (2 : Nat) = 0 by omega, show ¬ (2 : Nat) = 1 by omega, show ¬ (2 : Nat) = 5 by omega, if_false] at hge
    by_cases he0 : e = 0
    · subst he0
      simp only [if_true] at hge
      (simp -implicitDefEqProofs +contextual (maxSteps := 8000000) only [go_sem, ↓reduceIte, Nat.reduceEqDiff, Nat.reduceAdd, Nat.reduceSub, Nat.reduceLeDiff, Nat.reduceMul, reduceCtorEq, Nat.reduceBEq, Int.reduceLT, Int.reduceLE, Int.reduceNeg, Int.reduceEq, Int.reduceToNat, Nat.reducePow, Nat.reduceLT, Nat.reduceDiv, Nat.reduceMod, Option.map_none, encGT, encGV, envKE, i_wire_GetTag, i_wire_GetVarint, i_wire_read, i_wire_GetChunk, h40, h26, lk_upd, nxt, hb, hT, hV])
      rw [QE]
      refine ⟨by simp [resE, hge, entT, ent0], fun x hx hxp => ?_, by simp [placeE, hg, hv, lk_upd, h26]⟩
      simp only [dE, Bool.or_eq_false_iff, decide_eq_false_iff_not] at hx
      simp [lk_upd, Ne.symm hx.1, Ne.symm hx.2]
    · have he' : ¬ (e : Int) = 0 := by omega
      simp only [he0, if_false] at hge
      (simp -implicitDefEqProofs +contextual (maxSteps := 8000000) only [go_sem, ↓reduceIte, Nat.reduceEqDiff, Nat.reduceAdd, Nat.reduceSub, Nat.reduceLeDiff, Nat.reduceMul, reduceCtorEq, Nat.reduceBEq, Int.reduceLT, Int.reduceLE, Int.reduceNeg, Int.reduceEq, Int.reduceToNat, Nat.reducePow, Nat.reduceLT, Nat.reduceDiv, Nat.reduceMod, Option.map_none, encGT, encGV, envKE, i_wire_GetTag, i_wire_GetVarint, i_wire_read, i_wire_GetChunk, h40, h26, lk_upd, nxt, hb, hT, hV, he0, he'])
      rw [QE]
      refine ⟨by simp [resE, hge, entT, ent0], fun x hx hxp => ?_, by simp [placeE, hg, hv, lk_upd, h26]⟩
      simp only [dE, Bool.or_eq_false_iff, decide_eq_false_iff_not] at hx
      simp [lk_upd, Ne.symm hx.1, Ne.symm hx.2]
  · have her' : ¬ (er : Int) = 0 := by omega
    simp only [her, if_false] at hge
    (simp -implicitDefEqProofs +contextual (maxSteps := 8000000) only [go_sem, ↓reduceIte, Nat.reduceEqDiff, Nat.reduceAdd, Nat.reduceSub, Nat.reduceLeDiff, Nat.reduceMul, reduceCtorEq, Nat.reduceBEq, Int.reduceLT, Int.reduceLE, Int.reduceNeg, Int.reduceEq, Int.reduceToNat, Nat.reducePow, Nat.reduceLT, Nat.reduceDiv, Nat.reduceMod, Option.map_none, encGT, encGV, envKE, i_wire_GetTag, i_wire_GetVarint, i_wire_read, i_wire_GetChunk, h40, h26, lk_upd, nxt, hb, hT, her, her'])
    rw [QE]
    refine ⟨by simp [resE, hge, entT, ent0], fun x hx hxp => ?_, by simp [placeE, hg, her, lk_upd, h26]⟩
    simp only [dE, Bool.or_eq_false_iff, decide_eq_false_iff_not] at hx
    simp [lk_upd, Ne.symm hx.1, Ne.symm hx.2]
theorem getEntry_gc (b : List UInt8) (k : Int) (σ : Slots) (p : Nat) (hb : b.length ≤ 140737488351232) (h40 : lk σ 40 = none) (h26 : lk σ 1026 = none) (hp : lk σ p = none) (hp1 : dE p = false) (hav : ∀ k n it, lk σ k = some (n, it) → avI dE it = true) :
    GC Try.prog i_wire_GetEntry [.iv (.slice (b.map encB)), .iv (.int .i64 k)] σ (fun r σ' => r = resE b k p ∧ σ' = putE b k p σ) := by
  have hpl : ∀ n it, placeE b k = some (n, it) → avI dE it = true := by
    intro n it h
    unfold placeE at h
    split at h
    · injection h with h; injection h with _ h; subst h; rfl
    · cases h
  refine GC.ren dE 1026 p (by decide) hp1 ?_ hp ?_ (getEntry_raw b k σ hb h40 h26)
  · intro x hx
    simp only [dE, Bool.or_eq_true, decide_eq_true_eq] at hx
    rcases hx with rfl | rfl
    · exact h40
    · exact h26
  · rintro r σ' ⟨hr, hframe, h1⟩
    have hne : p ≠ 1026 := by rintro rfl; simp [dE] at hp1
    have hσp : lk σ' p = none := by rw [hframe p hp1 hne]; exact hp
    have hput : ∀ x, lk (putE b k p σ) x = if x = p then placeE b k else lk σ x := by
      intro x
      unfold putE
      by_cases hx : x = p
      · subst hx
        cases h9 : placeE b k with
        | some y => simp [lk_upd]
        | none => simp [hp]
      · cases h9 : placeE b k with
        | some y => simp [lk_upd, hx, Ne.symm hx]
        | none => simp [hx]
    refine ⟨resE b k p, putE b k p σ, ⟨rfl, rfl⟩, ?_, hσp, ?_, ?_⟩
    · rw [hr]
      refine .tup _ _ rfl ?_
      intro q c c' hc hc'
      match q with
      | 0 =>
        simp at hc hc'; subst hc; subst hc'
        unfold entT
        split
        · refine .agg _ _ rfl ?_
          intro q c c' hc hc'
          match q with
          | 0 | 1 | 2 => simp at hc hc'; subst hc; subst hc'; exact .iv _
          | 3 => simp at hc hc'; subst hc; subst hc'; exact .ren 0
          | q + 4 => simp at hc
        · exact .iv _
      | 1 | 2 => simp at hc hc'; subst hc; subst hc'; exact .iv _
      | q + 3 => simp at hc
    · intro x
      rw [hput x]
      cases hd : dE x with
      | true =>
        have hxp : x ≠ p := by rintro rfl; rw [hp1] at hd; cases hd
        simp only [if_true, hxp, if_false]
        simp only [dE, Bool.or_eq_true, decide_eq_true_eq] at hd
        rcases hd with rfl | rfl
        · exact h40
        · exact h26
      | false =>
        simp only [Bool.false_eq_true, if_false]
        by_cases hxp : x = p
        · simp only [hxp, if_true]; exact h1.symm
        · simp only [hxp, if_false]
          have hx26 : x ≠ 1026 := by rintro rfl; simp [dE] at hd
          exact (hframe x hd hx26).symm
    · intro x n it hl
      rw [hput x] at hl
      split at hl
      · exact hpl n it hl
      · exact hav x n it hl
theorem placeE_ok {b : List UInt8} {k : Int} (hk : 0 ≤ k) (h : (geAt b k).2.2 = 0) : ((geAt b k).1.kind = 2 → placeE b k = some (0, .list 5 1 ((geAt b k).1.b.map encB))) ∧ ((geAt b k).1.kind ≠ 2 → placeE b k = none ∧ (geAt b k).1.b = []) := by
  have hge : geAt b k = if (gtAt b k).2.2.2 = 0 then restAt b (gtAt b k).1 (gtAt b k).2.1 (gtAt b k).2.2.1 else (ent0, 0, (gtAt b k).2.2.2) := rfl
  have hkinds := fun m kk q => @gtAt_inv b k.toNat m kk q
  rcases hg : gtAt b k with ⟨num, kind, nx, er⟩
  rw [hg] at hge
  by_cases her : er = 0
  · subst her
    have hkk := hkinds num kind nx (by rw [Int.toNat_of_nonneg hk]; exact hg)
    obtain ⟨_, _, _, _, _, _, hisK⟩ := hkk
    simp only [if_true] at hge
    have f3 : ∀ g : Nat × Nat × Nat, geAt b k = fin3 num kind g → kind ≠ 2 → (geAt b k).1.kind = kind ∧ (geAt b k).1.b = [] := by
      intro g h9 hk2
      rw [h9] at h ⊢
      unfold fin3 at h ⊢
      split at h
      · rename_i e; rw [if_pos e]; exact ⟨rfl, rfl⟩
      · rename_i e; exact absurd h e
    unfold restAt at hge
    by_cases c0 : kind = 0
    · rw [if_pos c0] at hge
      obtain ⟨e1, e2⟩ := f3 _ hge (by omega)
      refine ⟨fun e => by rw [e1] at e; omega, fun _ => ⟨by simp [placeE, hg, c0], e2⟩⟩
    · rw [if_neg c0] at hge
      by_cases c1 : kind = 1
      · rw [if_pos c1] at hge
        obtain ⟨e1, e2⟩ := f3 _ hge (by omega)
        refine ⟨fun e => by rw [e1] at e; omega, fun _ => ⟨by simp [placeE, hg, c1], e2⟩⟩
      · rw [if_neg c1] at hge
        by_cases c5 : kind = 5
        · rw [if_pos c5] at hge
          obtain ⟨e1, e2⟩ := f3 _ hge (by omega)
          refine ⟨fun e => by rw [e1] at e; omega, fun _ => ⟨by simp [placeE, hg, c5], e2⟩⟩
        · rw [if_neg c5] at hge
          have c2 : kind = 2 := by
            simp only [isK, Bool.or_eq_true, decide_eq_true_eq] at hisK
            omega
          rw [hge] at h ⊢
          unfold finC at h ⊢
          split at h
          · rename_i e
            rw [if_pos e]
            refine ⟨fun _ => by simp [placeE, hg, c2], fun e2 => absurd (by simp [c2]) e2⟩
          · rename_i e; exact absurd h e
  · rw [if_neg her] at hge
    rw [hge] at h
    exact absurd h her
end Go.Proofs.Ytfmeedphpcjkmaa.Ag
set_option linter.unusedVariables false
set_option linter.unusedSimpArgs false
set_option maxRecDepth 100000
set_option maxHeartbeats 4000000
namespace Go.Proofs.Ytfmeedphpcjkmaa.Ag
attribute [-go_sem] nxt
def AvA (σ : Slots) : Prop := ∀ k n it, lk σ k = some (n, it) → avI dE it = true
theorem AvA.upd {σ : Slots} {k n : Nat} {it : Item} (h : AvA σ) (hi : avI dE it = true) : AvA (upd σ k (n, it)) := by
  intro k' n' it' hl
  rw [lk_upd] at hl
  split at hl
  · injection hl with hl; injection hl with _ hl; subst hl; exact hi
  · exact h k' n' it' hl
def entC (e : Ent) (p : Nat) : List TV := [.iv (.int .i64 e.num), .iv (.int .i64 e.kind), .iv (.int .u64 e.n), if e.kind = 2 then .lst p 0 else .iv .nil]
def encEn (e : Ent) : IV := .agg [.int .i64 e.num, .int .i64 e.kind, .int .u64 e.n, .nil]
def cellsL (P0 : Nat) : Nat → List Ent → List TV
  | _, [] => []
  | j, e :: l => entC e (P0 + j) ++ cellsL P0 (j + 1) l
def chk (l : List Ent) : Bool := !l.isEmpty
def itL (P0 : Nat) (l : List Ent) : Item := if chk l then .tl 60 4 (cellsL P0 0 l) else .list 60 4 (l.map encEn)
theorem cellsL_snoc (P0 : Nat) (e : Ent) : ∀ (l : List Ent) (j : Nat), cellsL P0 j (l ++ [e]) = cellsL P0 j l ++ entC e (P0 + (j + l.length))
  | [], j => by simp [cellsL]
  | x :: l, j => by
    simp only [List.cons_append, cellsL, cellsL_snoc P0 e l (j + 1), List.append_assoc, List.length_cons]
    congr 4; omega
theorem cellsL_plain (P0 : Nat) : ∀ (l : List Ent) (j : Nat), chk l = false → (flat (l.map encEn)).map TV.iv = cellsL P0 j l
  | [], j, h => rfl
  | x :: l, j, h => by simp [chk] at h
theorem cellsL_av (P0 : Nat) (hP : 2000 ≤ P0) : ∀ (l : List Ent) (j : Nat), (cellsL P0 j l).all (avT dE) = true
  | [], j => rfl
  | x :: l, j => by
    have ih := cellsL_av P0 hP l (j + 1)
    simp only [cellsL, List.all_append, ih, Bool.and_true]
    by_cases hx : x.kind = 2
    · simp only [entC, hx, if_true, List.all_cons, List.all_nil, avT, Bool.true_and, Bool.and_true, dE]
      rw [decide_eq_false (by omega), decide_eq_false (by omega)]; rfl
    · simp only [entC, hx, if_false, List.all_cons, List.all_nil, avT, Bool.true_and, Bool.and_true]
theorem itL_av (P0 : Nat) (hP : 2000 ≤ P0) (l : List Ent) : avI dE (itL P0 l) = true := by
  unfold itL
  split
  · exact cellsL_av P0 hP l 0
  · rfl
theorem chk_snoc (l : List Ent) (e : Ent) : chk (l ++ [e]) = true := by simp [chk]
theorem putE_lk (b : List UInt8) (k : Int) (p : Nat) (σ : Slots) (x : Nat) (hp : lk σ p = none) : lk (putE b k p σ) x = if x = p then placeE b k else lk σ x := by
  unfold putE
  by_cases hx : x = p
  · subst hx
    cases h9 : placeE b k with
    | some y => simp [lk_upd]
    | none => simp [hp]
  · cases h9 : placeE b k with
    | some y => simp [lk_upd, hx, Ne.symm hx]
    | none => simp [hx]
noncomputable def envKS : Env := { gr := [(i_wire_GetEntry, fun vs σ Q => GC Try.prog i_wire_GetEntry vs σ Q)] }
theorem envKS_ok : EnvOk Try.prog envKS := EnvOk.none.addR (by kernel_rfl)
theorem avT_mono {d d' : Nat → Bool} (h : ∀ x, d x = true → d' x = true) : ∀ t, avT d' t = true → avT d t = true := by
  have hn : ∀ k, (!d' k) = true → (!d k) = true := by
    intro k hk
    cases hd : d k with
    | false => rfl
    | true => rw [h k hd] at hk; cases hk
  intro t ht
  cases t with
  | iv x => rfl
  | dead => rfl
  | loc k n o => exact hn k ht
  | lst k n => exact hn k ht
  | el k n s i o => exact hn k ht
  | mp k n => exact hn k ht
  | itr k n => exact hn k ht
  | tup xs => cases xs with
    | nil => rfl
    | cons x xs => cases ht
  | ifb c t => cases ht
  | agg cs => cases ht
  | fn f fs cs => cases ht
theorem avI_mono {d d' : Nat → Bool} (h : ∀ x, d x = true → d' x = true) : ∀ it, avI d' it = true → avI d it = true := by
  intro it hi
  cases it with
  | box cs => exact List.all_eq_true.2 fun c hc => avT_mono h c (List.all_eq_true.1 hi c hc)
  | tl e sz cs => exact List.all_eq_true.2 fun c hc => avT_mono h c (List.all_eq_true.1 hi c hc)
  | map k es => exact List.all_eq_true.2 fun c hc => avT_mono h c.2 (List.all_eq_true.1 hi c hc)
  | gone => rfl
  | froz xs => rfl
  | list e sz xs => rfl
  | siter a b => rfl
  | pre a b => rfl
def dS (x : Nat) : Bool := decide (x = 40) || decide (x = 1026) || decide (x = 60) || decide (x = 61) || decide (x = 62) || decide (x = 63)
theorem dS_false {x : Nat} : dS x = false ↔ x ≠ 40 ∧ x ≠ 1026 ∧ x ≠ 60 ∧ x ≠ 61 ∧ x ≠ 62 ∧ x ≠ 63 := by simp [dS, and_assoc]
theorem dS_true {x : Nat} : dS x = true ↔ x = 40 ∨ x = 1026 ∨ x = 60 ∨ x = 61 ∨ x = 62 ∨ x = 63 := by simp [dS, or_assoc]
def dA (P0 N x : Nat) : Bool := dS x || (decide (P0 ≤ x) && decide (x ≤ P0 + N))
def AvD (d : Nat → Bool) (σ : Slots) : Prop := ∀ k n it, lk σ k = some (n, it) → avI d it = true
theorem AvD.mono {d d' : Nat → Bool} {σ : Slots} (h : ∀ x, d x = true → d' x = true) (ha : AvD d' σ) : AvD d σ := fun k n it hl => avI_mono h it (ha k n it hl)
theorem AvD.upd {d : Nat → Bool} {σ : Slots} {k n : Nat} {it : Item} (h : AvD d σ) (hi : avI d it = true) : AvD d (upd σ k (n, it)) := by
  intro k' n' it' hl
  rw [lk_upd] at hl
  split at hl
  · injection hl with hl; injection hl with _ hl; subst hl; exact hi
  · exact h k' n' it' hl
def putL (P0 : Nat) : List Ent → Nat → Slots → Slots
  | [], _, σ => σ
  | e :: l, j, σ => putL P0 l (j + 1) (if e.kind = 2 then upd σ (P0 + j) (0, .list 5 1 (e.b.map encB)) else σ)
theorem putL_snoc (P0 : Nat) (e : Ent) : ∀ (l : List Ent) (j : Nat) (σ : Slots), putL P0 (l ++ [e]) j σ = if e.kind = 2 then upd (putL P0 l j σ) (P0 + (j + l.length)) (0, .list 5 1 (e.b.map encB)) else putL P0 l j σ
  | [], j, σ => rfl
  | x :: l, j, σ => by
    rw [List.cons_append, putL, putL_snoc P0 e l (j + 1), putL, List.length_cons, show j + 1 + l.length = j + (l.length + 1) by omega]
theorem putL_out (P0 : Nat) : ∀ (l : List Ent) (j : Nat) (σ : Slots) (x : Nat), (x < P0 + j ∨ P0 + j + l.length ≤ x) → lk (putL P0 l j σ) x = lk σ x
  | [], j, σ, x, h => rfl
  | e :: l, j, σ, x, h => by
    simp only [List.length_cons] at h
    rw [putL, putL_out P0 l (j + 1) _ x (by omega)]
    split
    · rw [lk_upd, if_neg (by omega)]
    · rfl
theorem putL_at (P0 : Nat) : ∀ (l : List Ent) (j : Nat) (σ : Slots) (i : Nat) (e : Ent), l[i]? = some e → lk (putL P0 l j σ) (P0 + j + i) = if e.kind = 2 then some (0, .list 5 1 (e.b.map encB)) else lk σ (P0 + j + i)
  | [], j, σ, i, e, h => by simp at h
  | a :: l, j, σ, 0, e, h => by
    simp only [List.getElem?_cons_zero, Option.some.injEq] at h
    subst h
    rw [putL, putL_out P0 l (j + 1) _ _ (by omega)]
    split
    · rw [lk_upd, if_pos (by omega)]
    · rfl
  | a :: l, j, σ, i + 1, e, h => by
    simp only [List.getElem?_cons_succ] at h
    rw [putL, show P0 + j + (i + 1) = P0 + (j + 1) + i by omega, putL_at P0 l (j + 1) _ i e h]
    split
    · rfl
    · split
      · rw [lk_upd, if_neg (by omega)]
      · rfl
theorem putL_av {d : Nat → Bool} (P0 : Nat) : ∀ (l : List Ent) (j : Nat) (σ : Slots), AvD d σ → AvD d (putL P0 l j σ)
  | [], j, σ, h => h
  | e :: l, j, σ, h => by
    rw [putL]
    refine putL_av P0 l (j + 1) _ ?_
    split
    · exact h.upd rfl
    · exact h
def plE (l : List Ent) : Prop := ∀ e, e ∈ l → e.kind ≠ 2 → e.b = []
theorem plE.snoc {l : List Ent} {e : Ent} (h : plE l) (he : e.kind ≠ 2 → e.b = []) : plE (l ++ [e]) := by
  intro x hx
  rcases List.mem_append.1 hx with hx | hx
  · exact h x hx
  · simp at hx; subst hx; exact he
theorem cellsL_length (P0 : Nat) : ∀ (l : List Ent) (j : Nat), (cellsL P0 j l).length = 4 * l.length
  | [], j => rfl
  | e :: l, j => by
    simp only [cellsL, List.length_append, cellsL_length P0 l (j + 1), List.length_cons]
    simp [entC]; omega
theorem cellsL_avd {d : Nat → Bool} (P0 : Nat) : ∀ (l : List Ent) (j : Nat), (∀ i, i < l.length → d (P0 + (j + i)) = false) → (cellsL P0 j l).all (avT d) = true
  | [], j, h => rfl
  | x :: l, j, h => by
    have ih := cellsL_avd P0 l (j + 1) (fun i hi => by have := h (i + 1) (by simp; omega); rwa [show j + 1 + i = j + (i + 1) by omega])
    have h0 := h 0 (by simp)
    simp only [Nat.add_zero] at h0
    simp only [cellsL, List.all_append, ih, Bool.and_true]
    by_cases hx : x.kind = 2
    · simp only [entC, hx, if_true, List.all_cons, List.all_nil, avT, Bool.true_and, Bool.and_true, h0]; rfl
    · simp only [entC, hx, if_false, List.all_cons, List.all_nil, avT, Bool.true_and, Bool.and_true]
theorem itL_avd {d : Nat → Bool} (P0 : Nat) (l : List Ent) (h : ∀ i, i < l.length → d (P0 + i) = false) : avI d (itL P0 l) = true := by
  unfold itL
  split
  · exact cellsL_avd P0 l 0 (fun i hi => by rw [Nat.zero_add]; exact h i hi)
  · rfl
theorem flat_encEn : ∀ l : List Ent, (flat (l.map encEn)).length = 4 * l.length
  | [] => rfl
  | e :: l => by
    have := flat_encEn l
    simp only [List.map_cons, flat, List.flatMap_cons, List.length_append, List.length_cons] at this ⊢
    rw [this]; simp [encEn, IV.cells]; omega
theorem geAt_err {b : List UInt8} {k : Int} (h : (geAt b k).2.2 ≠ 0) : (geAt b k).1 = ent0 := by
  have hge : geAt b k = if (gtAt b k).2.2.2 = 0 then restAt b (gtAt b k).1 (gtAt b k).2.1 (gtAt b k).2.2.1 else (ent0, 0, (gtAt b k).2.2.2) := rfl
  by_cases h1 : (gtAt b k).2.2.2 = 0
  · rw [if_pos h1] at hge
    rw [hge] at h ⊢
    unfold restAt fin3 finC at h ⊢
    repeat' split
    all_goals first | rfl | skip
    all_goals simp_all
  · rw [if_neg h1] at hge
    rw [hge]
def KSI (b : List UInt8) (σ0 : Slots) (P0 n : Nat) (s : St) : Prop := ∃ (acc : List Ent) (v at_ : Nat), lk s.ρ 0 = some (.iv (.slice (b.map encB))) ∧ lk s.ρ 4 = some (.lst 61 v) ∧ lk s.ρ 5 = some (.iv (.int .i64 (at_ : Int))) ∧
  lk s.σ 61 = some (v, itL P0 acc) ∧ (∀ x, dS x = false → lk s.σ x = lk (putL P0 acc 0 σ0) x) ∧ lk s.σ 40 = none ∧ lk s.σ 1026 = none ∧ lk s.σ 62 = none ∧ AvD dE s.σ ∧ plE acc ∧
  at_ ≤ b.length ∧ b.length < at_ + n ∧ acc.length ≤ at_ ∧ spF b n at_ acc = spL b
def KSQ (b : List UInt8) (σ0 : Slots) (P0 : Nat) (r : TV) (σ' : Slots) : Prop :=
    ((spL b).2 ≠ 0 ∧ r = .tup [.iv .nil, .iv (.int .i64 ((spL b).2 : Int))] ∧ (∀ x, dA P0 b.length x = false → lk σ' x = lk σ0 x) ∧ lk σ' 62 = none) ∨
    ((spL b).2 = 0 ∧ plE (spL b).1 ∧ (spL b).1.length ≤ b.length ∧ r = .tup [.lst 62 1, .iv (.int .i64 0)] ∧ (∀ x, dS x = false → lk σ' x = lk (putL P0 (spL b).1 0 σ0) x) ∧ lk σ' 62 = some (1, itL P0 (spL b).1))
theorem split_raw (b : List UInt8) (σ : Slots) (P0 : Nat) (hb : b.length ≤ 1000000000) (hP : 2000 ≤ P0) (hf : ∀ x, dS x = true → lk σ x = none) (hfP : ∀ j, j ≤ b.length → lk σ (P0 + j) = none) (hav : AvD dE σ) :
    GC Try.prog i_wire_Split [.iv (.slice (b.map encB))] σ (KSQ b σ P0) := by
  have hb' : b.length ≤ 140737488351232 := by omega
  refine GC.vc envKS_ok F_wire_Split_k T_wire_Split_k L_wire_Split_k ?_
  unfold A_wire_Split_k; simp only [args0, List.map_cons, List.map_nil, List.zipIdx_cons, List.zipIdx_nil, Nat.reduceAdd]
  (simp -implicitDefEqProofs +contextual (maxSteps := 8000000) only [go_sem, ↓reduceIte, Nat.reduceEqDiff, Nat.reduceAdd, Nat.reduceSub, Nat.reduceLeDiff, Nat.reduceMul, reduceCtorEq, Nat.reduceBEq, Int.reduceLT, Int.reduceLE, Int.reduceNeg, Int.reduceEq, Int.reduceToNat, Nat.reducePow, Nat.reduceLT, Nat.reduceDiv, Nat.reduceMod, envKS])
  refine vc_loopN 4 61 60 4 (KSI b σ P0) (b.length + 1) (by simp [lk]) ⟨[], nxt σ 61, 0, by simp [lk], by simp [lk], by simp [lk], by simp [lk_upd, itL, chk], fun x hx => ?_, ?_, ?_, ?_, hav.upd rfl, by intro e he; simp at he, by omega, by omega, by simp, rfl⟩ ?_
  · rw [dS_false] at hx; rw [lk_upd, if_neg (by omega)]; rfl
  · rw [lk_upd, if_neg (by omega)]; exact hf 40 rfl
  · rw [lk_upd, if_neg (by omega)]; exact hf 1026 rfl
  · rw [lk_upd, if_neg (by omega)]; exact hf 62 rfl
  rintro n s ⟨acc, v, at_, t0, t4, t5, p61, hsame, p40, p26, p62, hava, hpl0, g1, g2, g3, g4⟩
  have hr := spF_round g1 g2 g4
  have hdp : ∀ j, dS (P0 + j) = false := by intro j; rw [dS_false]; omega
  have hfree : ∀ j, acc.length ≤ j → j ≤ b.length → lk s.σ (P0 + j) = none := by
    intro j hj hj2
    rw [hsame _ (hdp j), putL_out _ _ _ _ _ (by omega)]; exact hfP j hj2
  have hcl := cellsL_length P0 acc 0
  have hfl : (flat (acc.map encEn)).length = 4 * acc.length := flat_encEn acc
  have hcav : ∀ t, t ∈ cellsL P0 0 acc → avT dE t = true := List.all_eq_true.1 (cellsL_avd P0 acc 0 (fun i hi => by simp [dE]; omega))
  have hfq := cellsL_plain P0 acc 0
  by_cases hlt : at_ < b.length
  · (simp -implicitDefEqProofs +contextual (maxSteps := 8000000) only [go_sem, ↓reduceIte, Nat.reduceEqDiff, Nat.reduceAdd, Nat.reduceSub, Nat.reduceLeDiff, Nat.reduceMul, reduceCtorEq, Nat.reduceBEq, Int.reduceLT, Int.reduceLE, Int.reduceNeg, Int.reduceEq, Int.reduceToNat, Nat.reducePow, Nat.reduceLT, Nat.reduceDiv, Nat.reduceMod, envKS, i_wire_GetEntry, t0, t4, t5, hlt])
    have hfl' := hfree _ (Nat.le_refl _) (by omega)
    refine vcExD_mk (resE b (at_ : Int) (P0 + acc.length)) (putE b (at_ : Int) (P0 + acc.length) s.σ) (getEntry_gc b (at_ : Int) s.σ (P0 + acc.length) hb' p40 p26 hfl' (by simp [dE]; omega) hava) ?_
    have hlk := fun x => putE_lk b (at_ : Int) (P0 + acc.length) s.σ x hfl'
    have hpl := @placeE_ok b (at_ : Int) (by omega)
    have hav2 : AvD dE (putE b (at_ : Int) (P0 + acc.length) s.σ) := by
      unfold putE placeE
      split
      · rename_i x hx
        split at hx
        · injection hx with hx; subst hx; exact hava.upd rfl
        · cases hx
      · exact hava
    generalize putE b (at_ : Int) (P0 + acc.length) s.σ = σ' at hlk hav2
    have e61 : lk σ' 61 = some (v, itL P0 acc) := by rw [hlk, if_neg (by omega)]; exact p61
    have e40 : lk σ' 40 = none := by rw [hlk, if_neg (by omega)]; exact p40
    have e26 : lk σ' 1026 = none := by rw [hlk, if_neg (by omega)]; exact p26
    have e62 : lk σ' 62 = none := by rw [hlk, if_neg (by omega)]; exact p62
    have hn := fun h => @geAt_next b at_ h
    rw [resE]
    rcases hge : geAt b (at_ : Int) with ⟨en, nx, er⟩
    rw [hge] at hr hn hpl
    simp only at hr hn hpl ⊢
    obtain ⟨hr1, hr2⟩ := hr.1 hlt
    by_cases her : er = 0
    · subst her
      obtain ⟨hpl1, hpl2⟩ := hpl rfl
      obtain ⟨hn1, hn2⟩ := hn rfl
      have hr2 := hr2 rfl
      have fin : ∀ (s' : St), lk s'.ρ 0 = some (.iv (.slice (b.map encB))) → lk s'.ρ 4 = some (.lst 61 (v + 1)) → lk s'.ρ 5 = some (.iv (.int .i64 (nx : Int))) → lk s'.σ 61 = some (v + 1, itL P0 (acc ++ [en])) → (∀ x, x ≠ 60 → x ≠ 63 → x ≠ 61 → lk s'.σ x = lk σ' x) → AvD dE s'.σ → KSI b σ P0 (n - 1) s' := by
        intro s' a0 a4 a5 a61 afr aav
        refine ⟨acc ++ [en], v + 1, nx, a0, a4, a5, a61, fun x hx => ?_, by rw [afr 40 (by omega) (by omega) (by omega)]; exact e40, by rw [afr 1026 (by omega) (by omega) (by omega)]; exact e26, by rw [afr 62 (by omega) (by omega) (by omega)]; exact e62, aav, hpl0.snoc fun h => (hpl2 h).2, hn2, by omega, by simp; omega, hr2⟩
        have hx' := hx
        rw [dS_false] at hx'
        rw [afr x (by omega) (by omega) (by omega), hlk, putL_snoc]
        by_cases hk : en.kind = 2
        · rw [if_pos hk, lk_upd, hpl1 hk]
          by_cases e : x = P0 + acc.length
          · subst e; rw [if_pos rfl, if_pos (by omega)]
          · rw [if_neg e, if_neg (by omega)]; exact hsame x hx
        · rw [if_neg hk, (hpl2 hk).1]
          by_cases e : x = P0 + acc.length
          · subst e; rw [if_pos rfl, ← hsame _ hx]; exact hfl'.symm
          · rw [if_neg e]; exact hsame x hx
      by_cases hk : en.kind = 2
      · have hp := hpl1 hk
        have hch : chk (acc ++ [en]) = true := chk_snoc acc en
        have hcs : cellsL P0 0 (acc ++ [en]) = cellsL P0 0 acc ++ [.iv (.int .i64 en.num), .iv (.int .i64 2), .iv (.int .u64 en.n), .lst (P0 + acc.length) 0] := by
          rw [cellsL_snoc, entC, if_pos hk, hk, Nat.zero_add]
        have hit : itL P0 (acc ++ [en]) = .tl 60 4 (cellsL P0 0 acc ++ [.iv (.int .i64 en.num), .iv (.int .i64 2), .iv (.int .u64 en.n), .lst (P0 + acc.length) 0]) := by
          rw [itL, if_pos hch, hcs]
        have hd1 : (dE (P0 + acc.length)) = false := by simp [dE]; omega
        cases hc : chk acc with
        | true =>
          simp only [itL, hc, if_true] at e61
          simp only [entT, hk, if_true]
          (simp -implicitDefEqProofs +contextual (maxSteps := 8000000) only [go_sem, ↓reduceIte, Nat.reduceEqDiff, Nat.reduceAdd, Nat.reduceSub, Nat.reduceLeDiff, Nat.reduceMul, reduceCtorEq, Nat.reduceBEq, Int.reduceLT, Int.reduceLE, Int.reduceNeg, Int.reduceEq, Int.reduceToNat, Nat.reducePow, Nat.reduceLT, Nat.reduceDiv, Nat.reduceMod, envKS, i_wire_GetEntry, Option.map_none, t0, t4, t5, e61, lk_upd])
          refine ⟨by omega, n - 1, by omega, fin _ ?_ ?_ ?_ ?_ ?_ ?_⟩
          · simp [lk, t0]
          · simp [lk, lk_upd, nxt, e61]
          · simp [lk]
          · simp [lk_upd, nxt, e61, hit, hfq, hc]
          · intro x h1 h2 h3; simp [lk_upd, Ne.symm h1, Ne.symm h2, Ne.symm h3]
          · repeat (first | exact hav2 | refine AvD.upd ?_ ?_)
            all_goals simp only [avI, List.all_append, List.all_cons, List.all_nil, avT, hd1, Bool.and_true, Bool.true_and, Bool.not_false, List.all_map]
            all_goals first | rfl | (refine List.all_eq_true.2 ?_; first | exact hcav | (intro x hx; rfl)) | skip
        | false =>
          simp only [itL, hc, if_false, Bool.false_eq_true] at e61
          simp only [entT, hk, if_true]
          (simp -implicitDefEqProofs +contextual (maxSteps := 8000000) only [go_sem, ↓reduceIte, Nat.reduceEqDiff, Nat.reduceAdd, Nat.reduceSub, Nat.reduceLeDiff, Nat.reduceMul, reduceCtorEq, Nat.reduceBEq, Int.reduceLT, Int.reduceLE, Int.reduceNeg, Int.reduceEq, Int.reduceToNat, Nat.reducePow, Nat.reduceLT, Nat.reduceDiv, Nat.reduceMod, envKS, i_wire_GetEntry, Option.map_none, t0, t4, t5, e61, lk_upd])
          refine ⟨by omega, n - 1, by omega, fin _ ?_ ?_ ?_ ?_ ?_ ?_⟩
          · simp [lk, t0]
          · simp [lk, lk_upd, nxt, e61]
          · simp [lk]
          · simp [lk_upd, nxt, e61, hit, hfq, hc]
          · intro x h1 h2 h3; simp [lk_upd, Ne.symm h1, Ne.symm h2, Ne.symm h3]
          · repeat (first | exact hav2 | refine AvD.upd ?_ ?_)
            all_goals simp only [avI, List.all_append, List.all_cons, List.all_nil, avT, hd1, Bool.and_true, Bool.true_and, Bool.not_false, List.all_map]
            all_goals first | rfl | (refine List.all_eq_true.2 ?_; first | exact hcav | (intro x hx; rfl)) | skip
      · obtain ⟨hp, heb⟩ := hpl2 hk
        have hch : chk (acc ++ [en]) = true := chk_snoc acc en
        have hcs : cellsL P0 0 (acc ++ [en]) = cellsL P0 0 acc ++ [.iv (.int .i64 en.num), .iv (.int .i64 en.kind), .iv (.int .u64 en.n), .iv .nil] := by
          rw [cellsL_snoc, entC, if_neg hk]
        have hd1 : (dE (P0 + acc.length)) = false := by simp [dE]; omega
        cases hc : chk acc with
        | true =>
          have hit : itL P0 (acc ++ [en]) = .tl 60 4 (cellsL P0 0 acc ++ [.iv (.int .i64 en.num), .iv (.int .i64 en.kind), .iv (.int .u64 en.n), .iv .nil]) := by
            rw [itL, hch, if_pos rfl, hcs]
          simp only [itL, hc, if_true] at e61
          simp only [entT, hk, if_false]
          (simp -implicitDefEqProofs +contextual (maxSteps := 8000000) only [go_sem, ↓reduceIte, Nat.reduceEqDiff, Nat.reduceAdd, Nat.reduceSub, Nat.reduceLeDiff, Nat.reduceMul, reduceCtorEq, Nat.reduceBEq, Int.reduceLT, Int.reduceLE, Int.reduceNeg, Int.reduceEq, Int.reduceToNat, Nat.reducePow, Nat.reduceLT, Nat.reduceDiv, Nat.reduceMod, envKS, i_wire_GetEntry, Option.map_none, t0, t4, t5, e61, lk_upd])
          refine ⟨by omega, n - 1, by omega, fin _ ?_ ?_ ?_ ?_ ?_ ?_⟩
          · simp [lk, t0]
          · simp [lk, lk_upd, nxt, e61]
          · simp [lk]
          · simp [lk_upd, nxt, e61, hit, hfq, hc]
          · intro x h1 h2 h3; simp [lk_upd, Ne.symm h1, Ne.symm h2, Ne.symm h3]
          · repeat (first | exact hav2 | refine AvD.upd ?_ ?_)
            all_goals simp only [avI, List.all_append, List.all_cons, List.all_nil, avT, hd1, Bool.and_true, Bool.true_and, Bool.not_false, List.all_map]
            all_goals first | rfl | (refine List.all_eq_true.2 ?_; first | exact hcav | (intro x hx; rfl)) | skip
        | false =>
          simp only [itL, hc, if_false, Bool.false_eq_true] at e61
          simp only [entT, hk, if_false]
          have hit : itL P0 (acc ++ [en]) = .tl 60 4 (cellsL P0 0 acc ++ [.iv (.int .i64 en.num), .iv (.int .i64 en.kind), .iv (.int .u64 en.n), .iv .nil]) := by
            rw [itL, hch, if_pos rfl, hcs]
          (simp -implicitDefEqProofs +contextual (maxSteps := 8000000) only [go_sem, ↓reduceIte, Nat.reduceEqDiff, Nat.reduceAdd, Nat.reduceSub, Nat.reduceLeDiff, Nat.reduceMul, reduceCtorEq, Nat.reduceBEq, Int.reduceLT, Int.reduceLE, Int.reduceNeg, Int.reduceEq, Int.reduceToNat, Nat.reducePow, Nat.reduceLT, Nat.reduceDiv, Nat.reduceMod, envKS, i_wire_GetEntry, Option.map_none, t0, t4, t5, e61, lk_upd])
          refine ⟨by omega, n - 1, by omega, fin _ ?_ ?_ ?_ ?_ ?_ ?_⟩
          · simp [lk, t0]
          · simp [lk, lk_upd, nxt, e61]
          · simp [lk]
          · simp [lk_upd, nxt, e61, hit, hfq, hc]
          · intro x h1 h2 h3; simp [lk_upd, Ne.symm h1, Ne.symm h2, Ne.symm h3]
          · repeat (first | exact hav2 | refine AvD.upd ?_ ?_)
            all_goals simp only [avI, List.all_append, List.all_cons, List.all_nil, avT, hd1, Bool.and_true, Bool.true_and, Bool.not_false, List.all_map]
            all_goals first | rfl | (refine List.all_eq_true.2 ?_; first | exact hcav | (intro x hx; rfl)) | skip
    · have her' : ¬ (er : Int) = 0 := by omega
      have hen : en = ent0 := by have := @geAt_err b (at_ : Int); rw [hge] at this; exact this her
      subst hen
      simp only [entT, ent0, show ¬ (0 : Nat) = 2 by omega, if_false]
      (simp -implicitDefEqProofs +contextual (maxSteps := 8000000) only [go_sem, ↓reduceIte, Nat.reduceEqDiff, Nat.reduceAdd, Nat.reduceSub, Nat.reduceLeDiff, Nat.reduceMul, reduceCtorEq, Nat.reduceBEq, Int.reduceLT, Int.reduceLE, Int.reduceNeg, Int.reduceEq, Int.reduceToNat, Nat.reducePow, Nat.reduceLT, Nat.reduceDiv, Nat.reduceMod, envKS, i_wire_GetEntry, t0, t4, t5, her, her', lk_upd])
      left
      have hsb := hr1 her
      rw [hsb]
      refine ⟨her, rfl, fun x hx => ?_, by simp only [lk_upd]; rw [if_neg (by omega), if_neg (by omega)]; exact e62⟩
      simp only [dA, Bool.or_eq_false_iff, Bool.and_eq_false_iff, decide_eq_false_iff_not] at hx
      have hx' := dS_false.1 hx.1
      simp only [lk_upd]
      rw [if_neg (by omega), if_neg (by omega), hlk, if_neg (by omega), hsame x hx.1, putL_out _ _ _ _ _ (by omega)]
  · have hsp := hr.2 hlt
    cases hc : chk acc with
    | true =>
      simp only [itL, hc, if_true] at p61
      (simp -implicitDefEqProofs +contextual (maxSteps := 8000000) only [go_sem, ↓reduceIte, Nat.reduceEqDiff, Nat.reduceAdd, Nat.reduceSub, Nat.reduceLeDiff, Nat.reduceMul, reduceCtorEq, Nat.reduceBEq, Int.reduceLT, Int.reduceLE, Int.reduceNeg, Int.reduceEq, Int.reduceToNat, Nat.reducePow, Nat.reduceLT, Nat.reduceDiv, Nat.reduceMod, envKS, i_wire_GetEntry, Option.map_none, t0, t4, t5, p61, p62, lk_upd, hlt])
      refine ⟨by omega, by simp [flat]; omega, ?_⟩
      right
      rw [hsp]
      refine ⟨rfl, hpl0, by simp; omega, by simp [nxt, lk_upd, p62], fun x hx => ?_, ?_⟩
      · have hx' := dS_false.1 hx
        simp only [lk_upd]
        rw [if_neg (by omega), if_neg (by omega)]; exact hsame x hx
      · simp [nxt, lk_upd, p62, itL, hc, flat]
    | false =>
      simp only [itL, hc, if_false, Bool.false_eq_true] at p61
      (simp -implicitDefEqProofs +contextual (maxSteps := 8000000) only [go_sem, ↓reduceIte, Nat.reduceEqDiff, Nat.reduceAdd, Nat.reduceSub, Nat.reduceLeDiff, Nat.reduceMul, reduceCtorEq, Nat.reduceBEq, Int.reduceLT, Int.reduceLE, Int.reduceNeg, Int.reduceEq, Int.reduceToNat, Nat.reducePow, Nat.reduceLT, Nat.reduceDiv, Nat.reduceMod, envKS, i_wire_GetEntry, Option.map_none, t0, t4, t5, p61, p62, lk_upd, hlt])
      refine ⟨by omega, oneSize_map (f := encEn) (sz := 4) (fun e => ⟨rfl, fun ys h => by simp [encEn] at h⟩) acc, by omega, ?_⟩
      right
      rw [hsp]
      refine ⟨rfl, hpl0, by simp; omega, by simp [nxt, lk_upd, p62], fun x hx => ?_, ?_⟩
      · have hx' := dS_false.1 hx
        simp only [lk_upd]
        rw [if_neg (by omega), if_neg (by omega)]; exact hsame x hx
      · simp [nxt, lk_upd, p62, itL, hc]
def resS (b : List UInt8) (p : Nat) : TV := if (spL b).2 = 0 then .tup [.lst p 1, .iv (.int .i64 0)] else .tup [.iv .nil, .iv (.int .i64 ((spL b).2 : Int))]
def putS (b : List UInt8) (P0 p : Nat) (σ : Slots) : Slots := if (spL b).2 = 0 then upd (putL P0 (spL b).1 0 σ) p (1, itL P0 (spL b).1) else σ
theorem split_gc (b : List UInt8) (σ : Slots) (P0 p : Nat) (hb : b.length ≤ 1000000000) (hP : 2000 ≤ P0) (hp : p < P0) (hp2 : dS p = false) (hf : ∀ x, dS x = true → lk σ x = none) (hfp : lk σ p = none) (hfP : ∀ j, j ≤ b.length → lk σ (P0 + j) = none) (hav : AvD (dA P0 b.length) σ) :
    GC Try.prog i_wire_Split [.iv (.slice (b.map encB))] σ (fun r σ' => r = resS b p ∧ σ' = putS b P0 p σ) := by
  have hm : ∀ x, dE x = true → dA P0 b.length x = true := by
    intro x hx
    simp only [dE, Bool.or_eq_true, decide_eq_true_eq] at hx
    simp only [dA, dS, Bool.or_eq_true, decide_eq_true_eq, Bool.and_eq_true]; omega
  have hm2 : ∀ x, dS x = true → dA P0 b.length x = true := by
    intro x hx
    simp only [dA, hx, Bool.true_or]
  have hraw := split_raw b σ P0 hb hP hf hfP (hav.mono hm)
  by_cases h0 : (spL b).2 = 0
  · have hlen : KSQ b σ P0 = fun r σ' => KSQ b σ P0 r σ' := rfl
    refine GC.ren dS 62 p rfl hp2 hf hfp ?_ hraw
    rintro r σ' (⟨h1, _⟩ | ⟨h1, hpl, hle, rfl, hsame, h62⟩)
    · exact absurd h0 h1
    refine ⟨resS b p, putS b P0 p σ, ⟨rfl, rfl⟩, ?_, ?_, ?_, ?_⟩
    · rw [resS, if_pos h0]
      refine .tup _ _ rfl ?_
      intro q c c' hc hc'
      match q with
      | 0 => simp at hc hc'; subst hc; subst hc'; exact .ren 1
      | 1 => simp at hc hc'; subst hc; subst hc'; exact .iv _
      | q + 2 => simp at hc
    · rw [hsame p hp2, putL_out _ _ _ _ _ (by omega)]; exact hfp
    · intro x
      rw [putS, if_pos h0, lk_upd]
      cases hd : dS x with
      | true =>
        simp only [if_true]
        have hx2 := dS_true.1 hd
        rw [if_neg (by rintro rfl; rw [hp2] at hd; cases hd), putL_out _ _ _ _ _ (by omega)]
        exact hf x hd
      | false =>
        simp only [Bool.false_eq_true, if_false]
        by_cases e : x = p
        · rw [if_pos e.symm, if_pos e]; exact h62.symm
        · rw [if_neg (Ne.symm e), if_neg e]; exact (hsame x hd).symm
    · rw [putS, if_pos h0]
      refine (putL_av P0 _ 0 σ (hav.mono hm2)).upd (itL_avd P0 _ fun i hi => by rw [dS_false]; omega)
  · refine GC.ren (dA P0 b.length) 62 p rfl (by simp only [dA, hp2, Bool.false_or]; simp; omega) ?_ hfp ?_ hraw
    · intro x hx
      simp only [dA, Bool.or_eq_true, Bool.and_eq_true, decide_eq_true_eq] at hx
      rcases hx with hx | hx
      · exact hf x hx
      · have := hfP (x - P0) (by omega); rwa [show P0 + (x - P0) = x by omega] at this
    · rintro r σ' (⟨h1, rfl, hsame, h62⟩ | ⟨h1, _⟩)
      · have hdp : dA P0 b.length p = false := by simp only [dA, hp2, Bool.false_or]; simp; omega
        refine ⟨resS b p, putS b P0 p σ, ⟨rfl, rfl⟩, ?_, ?_, ?_, ?_⟩
        · rw [resS, if_neg h0]
          refine .tup _ _ rfl ?_
          intro q c c' hc hc'
          match q with
          | 0 | 1 => simp at hc hc'; subst hc; subst hc'; exact .iv _
          | q + 2 => simp at hc
        · rw [hsame p hdp]; exact hfp
        · intro x
          rw [putS, if_neg h0]
          cases hd : dA P0 b.length x with
          | true =>
            simp only [if_true]
            simp only [dA, Bool.or_eq_true, Bool.and_eq_true, decide_eq_true_eq] at hd
            rcases hd with hx | hx
            · exact hf x hx
            · have := hfP (x - P0) (by omega); rwa [show P0 + (x - P0) = x by omega] at this
          | false =>
            simp only [Bool.false_eq_true, if_false]
            by_cases e : x = p
            · rw [if_pos e, h62, e]; exact hfp
            · rw [if_neg e]; exact (hsame x hd).symm
        · rw [putS, if_neg h0]; exact hav
      · exact absurd h1 h0
end Go.Proofs.Ytfmeedphpcjkmaa.Ag
