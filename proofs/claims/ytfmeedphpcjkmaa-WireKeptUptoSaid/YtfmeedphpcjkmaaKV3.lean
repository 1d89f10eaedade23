/- WireKept: what is written into results, walked. -/
import Derived.Test.YtfmeedphpcjkmaaKVg
set_option linter.unusedVariables false
set_option linter.unusedSimpArgs false
set_option maxRecDepth 100000
set_option maxHeartbeats 4000000
namespace Go.Proofs.Ytfmeedphpcjkmaa.Ag
theorem GC.preArg {P : Program} {f : FuncId} {σ : Slots} {k n : Nat} {xs ys : List IV} {args : List TV} {Q : TV → Slots → Prop} (hk : lk σ k = some (n, .pre xs ys)) (h : GC P f (.iv (.slice xs) :: args) σ Q) : GC P f (.lst k n :: args) σ Q := by
  intro K w vs hs hsz hr
  refine h K w vs hs (by simpa using hsz) ?_
  intro q c v hc hv
  match q with
  | 0 =>
    simp only [List.getElem?_cons_zero, Option.some.injEq] at hc
    subst hc
    have := hr 0 (.lst k n) v rfl hv
    cases this
    obtain ⟨_, _, _, h2, _, _⟩ := (hs.rel k n _ hk).2
    exact .iv _ _ h2
  | q + 1 => exact hr (q + 1) c v (by simpa using hc) hv
noncomputable def g_pcO : List IV → Option (Nat × Nat × List IV × List IV)
  | [.slice b_] => match unBs b_ with
    | some b => if b.length ≤ 1000000000 then some (5, 1, (pcL b).map encB, []) else none
    | none => none
  | _ => none
theorem g_pcO_is (b : List UInt8) : g_pcO [.slice (b.map encB)] = if b.length ≤ 1000000000 then some (5, 1, (pcL b).map encB, []) else none := by
  simp only [g_pcO, unBs_enc]
theorem g_pcO_ok : ∀ xs e sz zs rets, g_pcO xs = some (e, sz, zs, rets) → OC Try.prog i_wire_PutChunk xs e sz zs rets := by
  intro xs e sz zs rets h
  unfold g_pcO at h
  split at h
  · rename_i b_
    split at h
    · rename_i b hb
      split at h
      · rename_i hpre
        simp only [Option.some.injEq, Prod.mk.injEq] at h
        obtain ⟨rfl, rfl, rfl, rfl⟩ := h
        have := unBs_enc_inv hb
        subst this
        exact putChunk_oc b hpre
      · cases h
    · cases h
  · cases h
noncomputable def envKL : Env := { ask := true, fc := [(i_cartouchelaw1_awake, g_cartouchelaw1_awake), (i_cartouchelaw1_same, g_cartouchelaw1_same), (i_cartoucheref1_List, g_cartoucheref1_List)], oc := [(i_wire_GetChunk, g_gcO), (i_wire_PutChunk, g_pcO)], gr := [(i_wire_Split, fun vs σ Q => GC Try.prog i_wire_Split vs σ Q)] }
theorem EnvOk.noneA {P : Program} : EnvOk P { ask := true } := ⟨fun f g h => by simp [lk] at h, fun f g h => by simp [lk] at h, fun f g h => by simp [lk] at h, fun f g h => by simp [lk] at h, fun f g h => by simp [lk] at h, fun _ _ _ _ _ h => h.elim⟩
theorem envKL_ok : EnvOk Try.prog envKL := (((((EnvOk.noneA.addR (f := i_wire_Split) (by kernel_rfl)).addO g_pcO_ok).addO g_gcO_ok).addF g_cartoucheref1_List_ok).addF g_cartouchelaw1_same_ok).addF g_cartouchelaw1_awake_ok
theorem take_pre (b : List UInt8) (z : IV) : (b.map encB ++ [z]).take b.length = b.map encB := by
  rw [List.take_append_of_le_length (by simp), List.take_of_length_le (by simp)]
theorem drop_pre (b : List UInt8) (z : IV) : (b.map encB ++ [z]).drop b.length = [z] := by
  rw [List.drop_append_of_le_length (by simp), List.drop_of_length_le (by simp)]; rfl
theorem split_fz (b : List UInt8) (σ : Slots) (hb : b.length ≤ 1000000000) : GC Try.prog i_wire_Split [.iv (.slice (b.map encB))] σ (fun r σ' => r = .iv (encSL (spL b)) ∧ σ' = σ) := by
  have h := g_wire_Split_is b
  rw [if_pos (by omega)] at h
  refine (GC.ofFC (xs := [.slice (b.map encB)]) (g_wire_Split_ok _ _ h)).mono ?_
  rintro r s ⟨⟨x, rfl, rfl⟩, rfl⟩
  exact ⟨rfl, rfl⟩
def bz (ys : List Int) : List IV := ys.map (IV.int .u8)
theorem bz_len (ys : List Int) : (bz ys).length = ys.length := by simp [bz]
theorem bz_set (ys : List Int) (i : Nat) (v : Int) : (bz ys).set i (.int .u8 v) = bz (ys.set i v) := by simp [bz, List.map_set]
theorem bz_flat : ∀ ys : List Int, flat (bz ys) = bz ys
  | [] => rfl
  | x :: l => by
    have := bz_flat l
    unfold flat bz at this ⊢
    rw [List.map_cons, List.flatMap_cons, this]; rfl
theorem bz_enc (b : List UInt8) : b.map encB = bz (b.map fun x => (x.toNat : Int)) := by simp [bz, encB]
theorem bz_app (ys zs : List Int) : bz ys ++ zs.map (IV.int .u8) = bz (ys ++ zs) := by simp [bz]
theorem bz_at {ys : List Int} {i : Nat} {v : Int} (h : ys[i]? = some v) : (bz ys)[i]? = some (.int .u8 v) := by simp [bz, h]
/-- What stays through the loops. -/
def KLive (b : List UInt8) (es : List Ent) (t10 : TV) (s : St) : Prop :=
  lk s.ρ 0 = some (.iv (.slice (b.map encB))) ∧ lk s.ρ 5 = some (.lst 10 0) ∧ lk s.ρ 10 = some t10 ∧ lk s.ρ 12 = some (.iv (.slice (es.map encE))) ∧ lk s.σ 10 = some (0, .pre (b.map encB) [.int .u8 201])
def KC (b : List UInt8) (es : List Ent) (t10 : TV) (σ1 : Slots) (n : Nat) (s : St) : Prop := ∃ (ys zs : List Int) (i : Nat), KLive b es t10 s ∧ lk s.ρ 6 = some (.lst 1035 0) ∧ lk s.ρ 9 = some (.lst 1040 0) ∧ lk s.ρ 14 = some (.iv (.int .i64 (i : Int))) ∧
  lk s.σ 1035 = some (0, .list 5 1 (bz ys)) ∧ lk s.σ 1040 = some (0, .list 5 1 (bz zs)) ∧ (∀ x, x ≠ 1035 → x ≠ 1040 → lk s.σ x = lk σ1 x) ∧ i ≤ ys.length ∧ ys.length < i + n ∧ ys.length ≤ 1000000000 ∧ zs.length ≤ 1000000010
def KP (b : List UInt8) (es : List Ent) (t10 : TV) (σ1 : Slots) (n : Nat) (s : St) : Prop := ∃ (zs : List Int) (i : Nat), KLive b es t10 s ∧ lk s.ρ 9 = some (.lst 1040 0) ∧ lk s.ρ 15 = some (.iv (.int .i64 (i : Int))) ∧
  lk s.σ 1040 = some (0, .list 5 1 (bz zs)) ∧ (∀ x, x ≠ 1035 → x ≠ 1040 → lk s.σ x = lk σ1 x) ∧ i ≤ zs.length ∧ zs.length < i + n ∧ zs.length ≤ 1000000010
def CkD (σ : Slots) (cs : List TV) (j : Nat) : Prop := ∃ (v : Nat) (ys : List Int), cs[j * 4 + 3]? = some (.lst (2000 + j) v) ∧ lk σ (2000 + j) = some (v, .list 5 1 (bz ys)) ∧ ys.length ≤ 1000000001 ∧ ∀ q, q + 1 < ys.length → ys[q]? = some (IntKind.u8.wrap (j : Int))
def CkT (σ : Slots) (cs : List TV) (j : Nat) (e : Ent) : Prop := cs[j * 4 + 3]? = some (if e.kind = 2 then .lst (2000 + j) 0 else .iv .nil) ∧ lk σ (2000 + j) = if e.kind = 2 then some (0, .list 5 1 (e.b.map encB)) else none
def KL (b : List UInt8) (es : List Ent) (n : Nat) (s : St) : Prop := ∃ (cs : List TV) (i : Nat), KLive b es (.lst 12 1) s ∧ lk s.ρ 16 = some (.iv (.int .i64 (i : Int))) ∧ lk s.σ 12 = some (1, .tl 60 4 cs) ∧ cs.length = 4 * es.length ∧
  (∀ j, j < i → CkD s.σ cs j) ∧ (∀ j e, i ≤ j → es[j]? = some e → CkT s.σ cs j e) ∧ i ≤ es.length ∧ es.length < i + n
def KM (b : List UInt8) (es : List Ent) (σ2 : Slots) (i n : Nat) (s : St) : Prop := ∃ (ys : List Int) (j : Nat), KLive b es (.lst 12 1) s ∧ lk s.ρ 16 = some (.iv (.int .i64 (i : Int))) ∧ lk s.ρ 17 = some (.iv (.int .i64 (j : Int))) ∧
  lk s.σ (2000 + i) = some (0, .list 5 1 (bz ys)) ∧ (∀ x, x ≠ 2000 + i → lk s.σ x = lk σ2 x) ∧ (∀ q, q < j → ys[q]? = some (IntKind.u8.wrap (i : Int))) ∧ j ≤ ys.length ∧ ys.length < j + n ∧ ys.length ≤ 1000000000
def KN (b : List UInt8) (es : List Ent) (σ2 : Slots) (i n : Nat) (s : St) : Prop := KLive b es (.lst 12 1) s ∧ lk s.ρ 16 = some (.iv (.int .i64 (i : Int))) ∧ lk s.ρ 17 = some (.iv (.int .i64 0)) ∧ ∀ x, lk s.σ x = lk σ2 x
theorem bz_snoc (ys : List Int) (v : Int) : bz ys ++ [.int .u8 v] = bz (ys ++ [v]) := by simp [bz]
theorem Reads.count {b : List UInt8} {j q : Nat} {l : List Ent} (h : Reads b j l q) : j + l.length ≤ q := by
  induction h with
  | nil j => simp
  | cons hj h t ih =>
    have hf' := geAt_fine h
    simp only [List.length_cons]; omega
theorem cellsL_at {P0 : Nat} : ∀ {l : List Ent} {j0 j : Nat} {e : Ent}, l[j]? = some e → (cellsL P0 j0 l)[j * 4 + 3]? = some (if e.kind = 2 then .lst (P0 + (j0 + j)) 0 else .iv .nil)
  | [], j0, j, e, h => by simp at h
  | x :: l, j0, 0, e, h => by
    simp at h; subst h
    simp [cellsL, entC]
  | x :: l, j0, j + 1, e, h => by
    simp only [List.getElem?_cons_succ] at h
    have := cellsL_at (P0 := P0) (j0 := j0 + 1) h
    rw [cellsL, show (j + 1) * 4 + 3 = (j * 4 + 3) + 4 by omega, List.getElem?_append_right (by simp [entC])]
    simp only [entC, List.length_cons, List.length_nil]
    rw [show j * 4 + 3 + 4 - (0 + 1 + 1 + 1 + 1) = j * 4 + 3 by omega, this, show j0 + 1 + j = j0 + (j + 1) by omega]
theorem set_at {cs : List TV} {k : Nat} (x : TV) (h : k < cs.length) : (List.take k cs ++ [x] ++ List.drop (k + 1) cs) = cs.set k x := by
  rw [List.set_eq_take_append_cons_drop, if_pos h]; simp
theorem ck_step {σ σ' : Slots} {cs : List TV} {i v : Nat} {ys : List Int} {es : List Ent} (hD : ∀ j, j < i → CkD σ cs j) (hT : ∀ j e, i ≤ j → es[j]? = some e → CkT σ cs j e) (hc4 : i * 4 + 4 ≤ cs.length)
    (h1 : lk σ' (2000 + i) = some (v, .list 5 1 (bz ys))) (hl : ys.length ≤ 1000000001) (hq : ∀ q, q + 1 < ys.length → ys[q]? = some (IntKind.u8.wrap (i : Int))) (hfr : ∀ x, x ≠ 2000 + i → x ≠ 12 → lk σ' x = lk σ x) :
    (∀ j, j < i + 1 → CkD σ' (cs.set (i * 4 + 3) (.lst (2000 + i) v)) j) ∧ (∀ j e, i + 1 ≤ j → es[j]? = some e → CkT σ' (cs.set (i * 4 + 3) (.lst (2000 + i) v)) j e) := by
  refine ⟨fun j hj => ?_, fun j e hj he => ?_⟩
  · by_cases e : j = i
    · subst e
      exact ⟨v, ys, by rw [List.getElem?_set_self (by omega)], h1, hl, hq⟩
    · obtain ⟨v', ys', a1, a2, a3, a4⟩ := hD j (by omega)
      exact ⟨v', ys', by rw [List.getElem?_set_ne (by omega)]; exact a1, by rw [hfr _ (by omega) (by omega)]; exact a2, a3, a4⟩
  · obtain ⟨a1, a2⟩ := hT j e (by omega) he
    exact ⟨by rw [List.getElem?_set_ne (by omega)]; exact a1, by rw [hfr _ (by omega) (by omega)]; exact a2⟩
def KX (b : List UInt8) (es : List Ent) (σ3 : Slots) (n : Nat) (s : St) : Prop := ∃ i : Nat, KLive b es (.lst 12 1) s ∧ lk s.ρ 18 = some (.iv (.int .i64 (i : Int))) ∧ (∀ x, lk s.σ x = lk σ3 x) ∧ i ≤ es.length ∧ es.length < i + n
def KY (b : List UInt8) (es : List Ent) (σ3 : Slots) (len i n : Nat) (s : St) : Prop := ∃ j : Nat, KLive b es (.lst 12 1) s ∧ lk s.ρ 18 = some (.iv (.int .i64 (i : Int))) ∧ lk s.ρ 19 = some (.iv (.int .i64 (j : Int))) ∧ (∀ x, lk s.σ x = lk σ3 x) ∧ j ≤ len ∧ len < j + n
theorem spF_er0 {b : List UInt8} : ∀ (f k : Nat) (acc : List Ent), (spF b f k acc).2 ≠ 0 → (spF b f k acc).1 = []
  | 0, k, acc, h => rfl
  | f + 1, k, acc, h => by
    rw [spF] at h ⊢
    split
    · rename_i h1
      rw [if_pos h1] at h
      split
      · rename_i h2
        rw [if_pos h2] at h
        exact spF_er0 f _ _ h
      · rfl
    · rename_i h1
      rw [if_neg h1] at h
      exact absurd rfl h
theorem putL_at0 {P0 : Nat} {l : List Ent} {σ : Slots} {i : Nat} {e : Ent} (h : l[i]? = some e) : lk (putL P0 l 0 σ) (P0 + i) = if e.kind = 2 then some (0, .list 5 1 (e.b.map encB)) else lk σ (P0 + i) := by
  have := putL_at P0 l 0 σ i e h
  rwa [Nat.add_zero] at this
theorem gc_len {b : List UInt8} {k : Int} : (gcAt b k).1.length ≤ b.length := by
  unfold gcAt gcT
  split
  · simp; omega
  · simp
theorem pc_len {b : List UInt8} (hb : b.length ≤ 1000000000) : (pcL b).length ≤ 1000000010 := by
  have := pvL_len10 (n := b.length) (by omega)
  simp [pcL]; omega
theorem wireKept_fc (b : List UInt8) (k : Int) (hb : b.length ≤ 1000000000) : FC Try.prog i_cartouchelaw1_WireKept [.slice (b.map encB), .int .i64 k] (· = .bool true) := by
  have hgc := g_gcO_is b k
  rw [if_pos (by omega)] at hgc
  have hpc := g_pcO_is b
  rw [if_pos hb] at hpc
  have hgl := @gc_len b k
  (refine FC.vc (envKL_ok) F_cartouchelaw1_WireKept_k T_cartouchelaw1_WireKept_k L_cartouchelaw1_WireKept_k ?_; unfold A_cartouchelaw1_WireKept_k; simp only [args0, List.map_cons, List.map_nil, List.zipIdx_cons, List.zipIdx_nil, Nat.reduceAdd])
  (simp -implicitDefEqProofs +contextual (maxSteps := 8000000) only [go_sem, ↓reduceIte, Nat.reduceEqDiff, Nat.reduceAdd, Nat.reduceSub, Nat.reduceLeDiff, Nat.reduceMul, reduceCtorEq, Nat.reduceBEq, Int.reduceLT, Int.reduceLE, Int.reduceNeg, Int.reduceEq, Int.reduceToNat, Nat.reducePow, Nat.reduceLT, Nat.reduceDiv, Nat.reduceMod, envKL, i_cartouchelaw1_awake, i_cartouchelaw1_same, i_cartoucheref1_List, i_wire_GetChunk, i_wire_PutChunk, i_wire_Split, g_cartouchelaw1_awake_is, hgc, hpc, List.length_map, lk_upd, take_pre, drop_pre])
  refine ⟨by omega, by omega, by omega, ?_⟩
  refine vcExD_mk (resS b 12) (putS b 2000 12 _) (GC.preArg (k := 10) (n := 0) (xs := b.map encB) (ys := [.int .u8 201]) (by simp [lk]) (split_gc b _ 2000 12 hb (by omega) (by omega) rfl ?_ (by simp [lk]) ?_ ?_)) ?_
  · intro x hx
    rw [dS_true] at hx
    rcases hx with rfl | rfl | rfl | rfl | rfl | rfl <;> rfl
  · intro j hj
    simp only [lk]
    rw [if_neg (by omega), if_neg (by omega), if_neg (by omega), if_neg (by omega)]
  · intro k n it hl
    simp only [lk] at hl
    repeat' split at hl
    all_goals first | (injection hl with hl; injection hl with _ hl; subst hl; rfl) | cases hl
  by_cases h0 : (spL b).2 = 0
  · rw [resS, if_pos h0]
    have hlk : ∀ x σ, lk (putS b 2000 12 σ) x = if 12 = x then some (1, itL 2000 (spL b).1) else lk (putL 2000 (spL b).1 0 σ) x := by
      intro x σ
      rw [putS, if_pos h0, lk_upd]
    generalize hσ1 : putS b 2000 12 _ = σ1
    have e10 : lk σ1 10 = some (0, .pre (b.map encB) [.int .u8 201]) := by rw [← hσ1, hlk, if_neg (by omega), putL_out _ _ _ _ _ (by omega)]; rfl
    have e35 : lk σ1 1035 = some (0, .list 5 1 ((gcAt b k).1.map encB)) := by rw [← hσ1, hlk, if_neg (by omega), putL_out _ _ _ _ _ (by omega)]; rfl
    have e40 : lk σ1 1040 = some (0, .list 5 1 ((pcL b).map encB)) := by rw [← hσ1, hlk, if_neg (by omega), putL_out _ _ _ _ _ (by omega)]; rfl
    have e12 : lk σ1 12 = some (1, itL 2000 (spL b).1) := by rw [← hσ1, hlk, if_pos rfl]
    have esub : ∀ (j : Nat) (e : Ent), (spL b).1[j]? = some e → lk σ1 (2000 + j) = if e.kind = 2 then some (0, .list 5 1 (e.b.map encB)) else none := by
      intro j e hj
      rw [← hσ1, hlk, if_neg (by omega)]
      rw [putL_at0 hj]
      split
      · rfl
      · simp only [lk]
        rw [if_neg (by omega), if_neg (by omega), if_neg (by omega), if_neg (by omega)]
    clear hσ1 hlk
    (simp -implicitDefEqProofs +contextual (maxSteps := 8000000) only [go_sem, ↓reduceIte, Nat.reduceEqDiff, Nat.reduceAdd, Nat.reduceSub, Nat.reduceLeDiff, Nat.reduceMul, reduceCtorEq, Nat.reduceBEq, Int.reduceLT, Int.reduceLE, Int.reduceNeg, Int.reduceEq, Int.reduceToNat, Nat.reducePow, Nat.reduceLT, Nat.reduceDiv, Nat.reduceMod, envKL, i_cartouchelaw1_awake, i_cartouchelaw1_same, i_cartoucheref1_List, i_wire_GetChunk, i_wire_PutChunk, i_wire_Split])
    refine vcExD_mk (.iv (encSL (spL b))) σ1 (GC.preArg e10 (split_fz b σ1 hb)) ?_
    rw [show spL b = ((spL b).1, 0) by rw [← h0]]
    (simp -implicitDefEqProofs +contextual (maxSteps := 8000000) only [go_sem, ↓reduceIte, Nat.reduceEqDiff, Nat.reduceAdd, Nat.reduceSub, Nat.reduceLeDiff, Nat.reduceMul, reduceCtorEq, Nat.reduceBEq, Int.reduceLT, Int.reduceLE, Int.reduceNeg, Int.reduceEq, Int.reduceToNat, Nat.reducePow, Nat.reduceLT, Nat.reduceDiv, Nat.reduceMod, encSL, envKL, i_cartouchelaw1_awake, i_cartouchelaw1_same, i_cartoucheref1_List, i_wire_GetChunk, i_wire_PutChunk, i_wire_Split])
    have hes : spL b = ((spL b).1, 0) := by rw [← h0]
    have hrd := spL_reads hes
    have hcnt := hrd.count
    have hfin := hrd.fine.1
    generalize (spL b).1 = es at *
    refine vc_loop (KC b es (.lst 12 1) σ1) ((gcAt b k).1.length + 1) ⟨(gcAt b k).1.map fun x => (x.toNat : Int), (pcL b).map fun x => (x.toNat : Int), 0, ⟨by simp [lk], by simp [lk], by simp [lk], by simp [lk], e10⟩, by simp [lk], by simp [lk], by simp [lk], by rw [← bz_enc]; exact e35, by rw [← bz_enc]; exact e40, fun _ _ _ => rfl, by omega, by simp, by simp; omega, by have := pc_len hb; simp; omega⟩ ?_
    rintro n s ⟨ys, zs, i, ⟨t0, t5, t10, t12, q10⟩, t6, t9, t14, p35, p40, hfr, g1, g2, g3, g4⟩
    by_cases hlt : i < ys.length
    · obtain ⟨w, hw⟩ : ∃ w, ys[i]? = some w := ⟨ys[i], by simp [hlt]⟩
      have hg := bz_at hw
      have hj1 : i + 1 ≤ ys.length := by omega
      have hw1 : IntKind.i64.wrap ((i : Int) + 1) = ((i + 1 : Nat) : Int) := by rw [wrap_i64 (by omega) (by omega)]; omega
      (simp -implicitDefEqProofs +contextual (maxSteps := 8000000) only [go_sem, ↓reduceIte, Nat.reduceEqDiff, Nat.reduceAdd, Nat.reduceSub, Nat.reduceLeDiff, Nat.reduceMul, reduceCtorEq, Nat.reduceBEq, Int.reduceLT, Int.reduceLE, Int.reduceNeg, Int.reduceEq, Int.reduceToNat, Nat.reducePow, Nat.reduceLT, Nat.reduceDiv, Nat.reduceMod, envKL, t6, t9, t14, p35, p40, lk_upd, hlt, bz_len, bz_flat, bz_set, hg, hw1, hj1, List.headD_cons])
      refine ⟨n - 1, by omega, ys.set i 99, zs, i + 1, ⟨by simp [lk, t0], by simp [lk, t5], by simp [lk, t10], by simp [lk, t12], by simp [lk_upd, q10]⟩, by simp [lk, t6], by simp [lk, t9], by simp [lk], by simp [lk_upd], by simp [lk_upd, p40], fun x h1 h2 => by simp [lk_upd, Ne.symm h1]; exact hfr x h1 h2, by simp; omega, by simp; omega, by simp; omega, g4⟩
    · (simp -implicitDefEqProofs +contextual (maxSteps := 8000000) only [go_sem, ↓reduceIte, Nat.reduceEqDiff, Nat.reduceAdd, Nat.reduceSub, Nat.reduceLeDiff, Nat.reduceMul, reduceCtorEq, Nat.reduceBEq, Int.reduceLT, Int.reduceLE, Int.reduceNeg, Int.reduceEq, Int.reduceToNat, Nat.reducePow, Nat.reduceLT, Nat.reduceDiv, Nat.reduceMod, envKL, t6, t9, t14, p35, p40, lk_upd, hlt, bz_len, bz_flat, bz_set])
      refine ⟨by omega, ?_⟩
      refine vc_loop (KP b es (.lst 12 1) σ1) (zs.length + 1) ⟨zs, 0, ⟨by simp [lk, t0], by simp [lk, t5], by simp [lk, t10], by simp [lk, t12], by simp [lk_upd, q10]⟩, by simp [lk, t9], by simp [lk], by simp [lk_upd, p40], fun x h1 h2 => by simp [lk_upd, Ne.symm h1]; exact hfr x h1 h2, by omega, by omega, g4⟩ ?_
      clear t0 t5 t10 t12 t6 t9 t14 p35 p40 q10 hfr g1 g2 g3 g4 hlt
      rintro n s ⟨zs, i, ⟨t0, t5, t10, t12, q10⟩, t9, t15, p40, hfr, g1, g2, g4⟩
      by_cases hlt : i < zs.length
      · obtain ⟨w, hw⟩ : ∃ w, zs[i]? = some w := ⟨zs[i], by simp [hlt]⟩
        have hg := bz_at hw
        have hj1 : i + 1 ≤ zs.length := by omega
        have hw1 : IntKind.i64.wrap ((i : Int) + 1) = ((i + 1 : Nat) : Int) := by rw [wrap_i64 (by omega) (by omega)]; omega
        (simp -implicitDefEqProofs +contextual (maxSteps := 8000000) only [go_sem, ↓reduceIte, Nat.reduceEqDiff, Nat.reduceAdd, Nat.reduceSub, Nat.reduceLeDiff, Nat.reduceMul, reduceCtorEq, Nat.reduceBEq, Int.reduceLT, Int.reduceLE, Int.reduceNeg, Int.reduceEq, Int.reduceToNat, Nat.reducePow, Nat.reduceLT, Nat.reduceDiv, Nat.reduceMod, envKL, t9, t15, p40, lk_upd, hlt, bz_len, bz_flat, bz_set, hg, hw1, hj1, List.headD_cons])
        refine ⟨n - 1, by omega, zs.set i 96, i + 1, ⟨by simp [lk, t0], by simp [lk, t5], by simp [lk, t10], by simp [lk, t12], by simp [lk_upd, q10]⟩, by simp [lk, t9], by simp [lk], by simp [lk_upd], fun x h1 h2 => by simp [lk_upd, Ne.symm h2]; exact hfr x h1 h2, by simp; omega, by simp; omega, by simp; omega⟩
      · (simp -implicitDefEqProofs +contextual (maxSteps := 8000000) only [go_sem, ↓reduceIte, Nat.reduceEqDiff, Nat.reduceAdd, Nat.reduceSub, Nat.reduceLeDiff, Nat.reduceMul, reduceCtorEq, Nat.reduceBEq, Int.reduceLT, Int.reduceLE, Int.reduceNeg, Int.reduceEq, Int.reduceToNat, Nat.reducePow, Nat.reduceLT, Nat.reduceDiv, Nat.reduceMod, envKL, t9, t15, p40, lk_upd, hlt, bz_len, bz_flat, bz_set])
        refine ⟨by omega, ?_⟩
        have e12' : lk s.σ 12 = some (1, itL 2000 es) := by rw [hfr 12 (by omega) (by omega)]; exact e12
        have esub' : ∀ (j : Nat) (e : Ent), es[j]? = some e → lk s.σ (2000 + j) = if e.kind = 2 then some (0, .list 5 1 (e.b.map encB)) else none := by
          intro j e hj
          rw [hfr _ (by omega) (by omega)]; exact esub j e hj
        have hlen : ∀ e, e ∈ es → e.b.length ≤ 1000000000 := fun e he => by have := (hfin e he).2.1; omega
        cases hne : chk es with
        | true =>
         rw [itL, if_pos hne] at e12'
         refine vc_loop (KL b es) (es.length + 1) ⟨cellsL 2000 0 es, 0, ⟨by simp [lk, t0], by simp [lk, t5], by simp [lk, t10], by simp [lk, t12], by simp [lk_upd, q10]⟩, by simp [lk], by simp [lk_upd, e12'], cellsL_length _ _ _, fun j hj => by omega, fun j e _ hj => ?_, by omega, by omega⟩ ?_
         · refine ⟨by rw [cellsL_at hj, Nat.zero_add], ?_⟩
           simp only [lk_upd]
           rw [if_neg (by omega)]; exact esub' j e hj
         clear e12' esub' t0 t5 t10 t12 t9 t15 p40 hfr g1 g2 g4 hlt q10
         rintro n s ⟨cs, i, ⟨t0, t5, t10, t12, q10⟩, t16, p12, hcs, hD, hT, g1, g2⟩
         by_cases hlt : i < es.length
         · obtain ⟨e, he⟩ : ∃ e, es[i]? = some e := ⟨es[i], by simp [hlt]⟩
           have hc4 : i * 4 + 4 ≤ cs.length := by omega
           obtain ⟨hcell, hsub⟩ := hT i e (Nat.le_refl _) he
           have hl4 : cs.length / 4 = es.length := by omega
           have hlc : (i : Int) < (es.length : Int) := by omega
           have hw1 : IntKind.i64.wrap ((i : Int) + 1) = ((i + 1 : Nat) : Int) := by rw [wrap_i64 (by omega) (by omega)]; omega
           have hn12 : ¬ (2000 + i = 12) := by omega
           by_cases hk : e.kind = 2
           · rw [if_pos hk] at hcell hsub
             (simp -implicitDefEqProofs +contextual (maxSteps := 8000000) only [go_sem, ↓reduceIte, Nat.reduceEqDiff, Nat.reduceAdd, Nat.reduceSub, Nat.reduceLeDiff, Nat.reduceMul, reduceCtorEq, Nat.reduceBEq, Int.reduceLT, Int.reduceLE, Int.reduceNeg, Int.reduceEq, Int.reduceToNat, Nat.reducePow, Nat.reduceLT, Nat.reduceDiv, Nat.reduceMod, envKL, t10, t16, p12, hlt, hlc, hl4, hcell, hc4, hsub, bz_enc, bz_len, lk_upd])
             have hbl := hlen e (List.mem_of_getElem? he)
             refine vc_loop (KM b es s.σ i) (e.b.length + 1) ⟨e.b.map fun x => (x.toNat : Int), 0, ⟨by simp [lk, t0], by simp [lk, t5], by simp [lk, t10], by simp [lk, t12], q10⟩, by simp [lk, t16], by simp [lk], by rw [← bz_enc]; exact hsub, fun x hx => rfl, fun q hq => by omega, by omega, by simp, by simp; omega⟩ ?_
             clear hsub t0 t5 t10 t12 t16
             rintro m s' ⟨ys, j, ⟨t0, t5, t10, t12, q10'⟩, t16, t17, hsub, hfr, hys, g3, g4, g5⟩
             have p12' : lk s'.σ 12 = some (1, .tl 60 4 cs) := by rw [hfr _ (by omega)]; exact p12
             by_cases hj : j < ys.length
             · obtain ⟨w, hw⟩ : ∃ w, ys[j]? = some w := ⟨ys[j], by simp [hj]⟩
               have hg := bz_at hw
               have hj1 : j + 1 ≤ ys.length := by omega
               have hjc : (j : Int) < (ys.length : Int) := by omega
               have hw2 : IntKind.i64.wrap ((j : Int) + 1) = ((j + 1 : Nat) : Int) := by rw [wrap_i64 (by omega) (by omega)]; omega
               (simp -implicitDefEqProofs +contextual (maxSteps := 8000000) only [go_sem, ↓reduceIte, Nat.reduceEqDiff, Nat.reduceAdd, Nat.reduceSub, Nat.reduceLeDiff, Nat.reduceMul, reduceCtorEq, Nat.reduceBEq, Int.reduceLT, Int.reduceLE, Int.reduceNeg, Int.reduceEq, Int.reduceToNat, Nat.reducePow, Nat.reduceLT, Nat.reduceDiv, Nat.reduceMod, envKL, t10, t16, t17, p12', hlt, hlc, hl4, hcell, hc4, hsub, bz_enc, bz_len, lk_upd, bz_flat, bz_set, hg, hj1, hjc, hw2, List.headD_cons])
               refine ⟨m - 1, by omega, ys.set j (IntKind.u8.wrap (i : Int)), j + 1, ⟨by simp [lk, t0], by simp [lk, t5], by simp [lk, t10], by simp [lk, t12], by rw [lk_upd, if_neg (by omega)]; exact q10'⟩, by simp [lk, t16], by simp [lk], by simp [lk_upd], fun x hx => by rw [lk_upd, if_neg (Ne.symm hx)]; exact hfr x hx, fun q hq => ?_, by simp; omega, by simp; omega, by simp; omega⟩
               by_cases e : j = q
               · subst e; rw [List.getElem?_set_self (by omega)]
               · rw [List.getElem?_set_ne e]; exact hys q (by omega)
             · have hjc : ¬ (j : Int) < (ys.length : Int) := by omega
               (simp -implicitDefEqProofs +contextual (maxSteps := 8000000) only [go_sem, ↓reduceIte, Nat.reduceEqDiff, Nat.reduceAdd, Nat.reduceSub, Nat.reduceLeDiff, Nat.reduceMul, reduceCtorEq, Nat.reduceBEq, Int.reduceLT, Int.reduceLE, Int.reduceNeg, Int.reduceEq, Int.reduceToNat, Nat.reducePow, Nat.reduceLT, Nat.reduceDiv, Nat.reduceMod, envKL, t10, t16, t17, p12', hlt, hlc, hl4, hcell, hc4, hsub, bz_enc, bz_len, lk_upd, bz_flat, bz_set, hjc, bz_snoc, hw1, hn12, List.headD_cons])
               refine ⟨by omega, n - 1, by omega, _, i + 1, ⟨by simp [lk, t0], by simp [lk, t5], by simp [lk, t10], by simp [lk, t12], by rw [lk_upd, if_neg (by omega), lk_upd, if_neg (by omega)]; exact q10'⟩, by simp [lk], by rw [lk_upd, if_pos rfl], by rw [set_at _ (by omega)]; simp [hcs], ?_, ?_, by omega, by omega⟩
               all_goals
                 rw [set_at _ (by omega)]
                 have hst := fun σ' v (h1 : lk σ' (2000 + i) = some (v, .list 5 1 (bz (ys ++ [93])))) hfr => ck_step (σ' := σ') hD hT hc4 h1 (by simp; omega) (fun q hq => by
                   simp only [List.length_append, List.length_cons, List.length_nil] at hq
                   rw [List.getElem?_append_left (by omega)]; exact hys q (by omega)) hfr
               · refine (hst _ _ (by rw [lk_upd, if_neg (by omega), lk_upd, if_pos rfl]) ?_).1
                 intro x h1 h2; rw [lk_upd, if_neg (Ne.symm h2), lk_upd, if_neg (Ne.symm h1)]; exact hfr x h1
               · refine (hst _ _ (by rw [lk_upd, if_neg (by omega), lk_upd, if_pos rfl]) ?_).2
                 intro x h1 h2; rw [lk_upd, if_neg (Ne.symm h2), lk_upd, if_neg (Ne.symm h1)]; exact hfr x h1
           · rw [if_neg hk] at hcell hsub
             (simp -implicitDefEqProofs +contextual (maxSteps := 8000000) only [go_sem, ↓reduceIte, Nat.reduceEqDiff, Nat.reduceAdd, Nat.reduceSub, Nat.reduceLeDiff, Nat.reduceMul, reduceCtorEq, Nat.reduceBEq, Int.reduceLT, Int.reduceLE, Int.reduceNeg, Int.reduceEq, Int.reduceToNat, Nat.reducePow, Nat.reduceLT, Nat.reduceDiv, Nat.reduceMod, envKL, t10, t16, p12, hlt, hlc, hl4, hcell, hc4, hsub, bz_enc, bz_len, lk_upd])
             refine vc_loop (KN b es s.σ i) 1 ⟨⟨by simp [lk, t0], by simp [lk, t5], by simp [lk, t10], by simp [lk, t12], q10⟩, by simp [lk, t16], by simp [lk], fun x => rfl⟩ ?_
             clear t0 t5 t10 t12 t16
             rintro m s' ⟨⟨t0, t5, t10, t12, q10'⟩, t16, t17, hfr⟩
             have p12' : lk s'.σ 12 = some (1, .tl 60 4 cs) := by rw [hfr]; exact p12
             have hsub' : lk s'.σ (2000 + i) = none := by rw [hfr]; exact hsub
             (simp -implicitDefEqProofs +contextual (maxSteps := 8000000) only [go_sem, ↓reduceIte, Nat.reduceEqDiff, Nat.reduceAdd, Nat.reduceSub, Nat.reduceLeDiff, Nat.reduceMul, reduceCtorEq, Nat.reduceBEq, Int.reduceLT, Int.reduceLE, Int.reduceNeg, Int.reduceEq, Int.reduceToNat, Nat.reducePow, Nat.reduceLT, Nat.reduceDiv, Nat.reduceMod, envKL, t10, t16, t17, p12', hlt, hlc, hl4, hcell, hc4, hsub', bz_enc, bz_len, lk_upd, bz_snoc, hw1, hn12])
             refine vcAp_mk (2000 + i) ?_
             (simp -implicitDefEqProofs +contextual (maxSteps := 8000000) only [go_sem, ↓reduceIte, Nat.reduceEqDiff, Nat.reduceAdd, Nat.reduceSub, Nat.reduceLeDiff, Nat.reduceMul, reduceCtorEq, Nat.reduceBEq, Int.reduceLT, Int.reduceLE, Int.reduceNeg, Int.reduceEq, Int.reduceToNat, Nat.reducePow, Nat.reduceLT, Nat.reduceDiv, Nat.reduceMod, envKL, t10, t16, t17, p12', hlt, hlc, hl4, hcell, hc4, hsub', bz_enc, bz_len, lk_upd, bz_snoc, hw1, hn12])
             refine ⟨n - 1, by omega, _, i + 1, ⟨by simp [lk, t0], by simp [lk, t5], by simp [lk, t10], by simp [lk, t12], by rw [lk_upd, if_neg (by omega), lk_upd, if_neg (by omega)]; exact q10'⟩, by simp [lk], by rw [lk_upd, if_pos rfl], by rw [set_at _ (by omega)]; simp [hcs], ?_, ?_, by omega, by omega⟩
             all_goals
               rw [set_at _ (by omega)]
               have hst := fun σ' v (h1 : lk σ' (2000 + i) = some (v, .list 5 1 (bz [93]))) hfr => ck_step (σ' := σ') hD hT hc4 h1 (by simp) (fun q hq => by simp at hq) hfr
             · refine (hst _ _ (by rw [lk_upd, if_neg (by omega), lk_upd, if_pos rfl]; rfl) ?_).1
               intro x h1 h2; rw [lk_upd, if_neg (Ne.symm h2), lk_upd, if_neg (Ne.symm h1)]; exact hfr x
             · refine (hst _ _ (by rw [lk_upd, if_neg (by omega), lk_upd, if_pos rfl]; rfl) ?_).2
               intro x h1 h2; rw [lk_upd, if_neg (Ne.symm h2), lk_upd, if_neg (Ne.symm h1)]; exact hfr x
         · have hl4 : cs.length / 4 = es.length := by omega
           have hlc : ¬ (i : Int) < (es.length : Int) := by omega
           (simp -implicitDefEqProofs +contextual (maxSteps := 8000000) only [go_sem, ↓reduceIte, Nat.reduceEqDiff, Nat.reduceAdd, Nat.reduceSub, Nat.reduceLeDiff, Nat.reduceMul, reduceCtorEq, Nat.reduceBEq, Int.reduceLT, Int.reduceLE, Int.reduceNeg, Int.reduceEq, Int.reduceToNat, Nat.reducePow, Nat.reduceLT, Nat.reduceDiv, Nat.reduceMod, envKL, t10, t16, p12, hlt, hlc, hl4, lk_upd])
           have hi : i = es.length := by omega
           subst hi
           refine vc_loop (KX b es s.σ) (es.length + 1) ⟨0, ⟨by simp [lk, t0], by simp [lk, t5], by simp [lk, t10], by simp [lk, t12], by simp [lk_upd, q10]⟩, by simp [lk], fun x => rfl, by omega, by omega⟩ ?_
           clear t0 t5 t10 t12 t16 hlt hlc
           generalize s.σ = σ3 at *
           rintro n s ⟨i, ⟨t0, t5, t10, t12, _⟩, t18, hfr, g3, g4⟩
           have p12' : lk s.σ 12 = some (1, .tl 60 4 cs) := by rw [hfr]; exact p12
           have q10' : lk s.σ 10 = some (0, .pre (b.map encB) [.int .u8 201]) := by rw [hfr]; exact q10
           have hw1 : IntKind.i64.wrap ((i : Int) + 1) = ((i + 1 : Nat) : Int) := by rw [wrap_i64 (by omega) (by omega)]; omega
           by_cases hlt : i < es.length
           · have hlc : (i : Int) < (es.length : Int) := by omega
             have hc4 : i * 4 + 4 ≤ cs.length := by omega
             obtain ⟨v, ys, hcell, hsub, hyl, hyq⟩ := hD i hlt
             (simp -implicitDefEqProofs +contextual (maxSteps := 8000000) only [go_sem, ↓reduceIte, Nat.reduceEqDiff, Nat.reduceAdd, Nat.reduceSub, Nat.reduceLeDiff, Nat.reduceMul, reduceCtorEq, Nat.reduceBEq, Int.reduceLT, Int.reduceLE, Int.reduceNeg, Int.reduceEq, Int.reduceToNat, Nat.reducePow, Nat.reduceLT, Nat.reduceDiv, Nat.reduceMod, envKL, t10, t18, p12', hlt, hlc, hl4, lk_upd])
             refine vc_loop (KY b es σ3 ys.length i) (ys.length + 1) ⟨0, ⟨by simp [lk, t0], by simp [lk, t5], by simp [lk, t10], by simp [lk, t12], q10'⟩, by simp [lk, t18], by simp [lk], hfr, by omega, by omega⟩ ?_
             clear t0 t5 t10 t12 t18 hfr p12' q10'
             rintro m s ⟨j, ⟨t0, t5, t10, t12, q10'⟩, t18, t19, hfr, g5, g6⟩
             have p12' : lk s.σ 12 = some (1, .tl 60 4 cs) := by rw [hfr]; exact p12
             have hsub' : lk s.σ (2000 + i) = some (v, .list 5 1 (bz ys)) := by rw [hfr]; exact hsub
             have hw2 : IntKind.i64.wrap ((j : Int) + 1) = ((j + 1 : Nat) : Int) := by rw [wrap_i64 (by omega) (by omega)]; omega
             by_cases hj : j + 1 < ys.length
             · have hjc : ((j + 1 : Nat) : Int) < (ys.length : Int) := by omega
               have hg := bz_at (hyq j hj)
               have hj1 : j + 1 ≤ ys.length := by omega
               (simp -implicitDefEqProofs +contextual (maxSteps := 8000000) only [go_sem, ↓reduceIte, Nat.reduceEqDiff, Nat.reduceAdd, Nat.reduceSub, Nat.reduceLeDiff, Nat.reduceMul, reduceCtorEq, Nat.reduceBEq, Int.reduceLT, Int.reduceLE, Int.reduceNeg, Int.reduceEq, Int.reduceToNat, Nat.reducePow, Nat.reduceLT, Nat.reduceDiv, Nat.reduceMod, envKL, t10, t18, t19, p12', hsub', hcell, hc4, hjc, hw2, hg, hj1, bz_len, bz_flat, lk_upd])
               exact ⟨m - 1, by omega, j + 1, ⟨by simp [lk, t0], by simp [lk, t5], by simp [lk, t10], by simp [lk, t12], q10'⟩, by simp [lk, t18], by simp [lk], hfr, by omega, by omega⟩
             · have hjc : ¬ ((j + 1 : Nat) : Int) < (ys.length : Int) := by omega
               (simp -implicitDefEqProofs +contextual (maxSteps := 8000000) only [go_sem, ↓reduceIte, Nat.reduceEqDiff, Nat.reduceAdd, Nat.reduceSub, Nat.reduceLeDiff, Nat.reduceMul, reduceCtorEq, Nat.reduceBEq, Int.reduceLT, Int.reduceLE, Int.reduceNeg, Int.reduceEq, Int.reduceToNat, Nat.reducePow, Nat.reduceLT, Nat.reduceDiv, Nat.reduceMod, envKL, t10, t18, t19, p12', hsub', hcell, hc4, hjc, hw2, hw1, bz_len, bz_flat, lk_upd])
               exact ⟨n - 1, by omega, i + 1, ⟨by simp [lk, t0], by simp [lk, t5], by simp [lk, t10], by simp [lk, t12], q10'⟩, by simp [lk], hfr, by omega, by omega⟩
           · have hlc : ¬ (i : Int) < (es.length : Int) := by omega
             have hli : g_cartoucheref1_List [.slice (es.map encE), .slice (es.map encE)] = some (.bool true) := by
               have := g_cartoucheref1_List_is es es
               rw [if_pos (by omega)] at this
               simpa [encEs] using this
             have hsm := g_cartouchelaw1_same_is b b
             simp only [decide_true] at hsm
             (simp -implicitDefEqProofs +contextual (maxSteps := 8000000) only [go_sem, ↓reduceIte, Nat.reduceEqDiff, Nat.reduceAdd, Nat.reduceSub, Nat.reduceLeDiff, Nat.reduceMul, reduceCtorEq, Nat.reduceBEq, Int.reduceLT, Int.reduceLE, Int.reduceNeg, Int.reduceEq, Int.reduceToNat, Nat.reducePow, Nat.reduceLT, Nat.reduceDiv, Nat.reduceMod, envKL, t0, t5, t10, t12, t18, p12', hlt, hlc, hl4, lk_upd, i_wire_Split])
             refine vcExD_mk (.iv (encSL (spL b))) _ (split_fz b _ hb) ?_
             rw [hes]
             have hix : (b.map encB ++ [IV.int .u8 201])[b.length]? = some (.int .u8 201) := by
               rw [List.getElem?_append_right (by simp)]; simp
             have hwb : IntKind.i64.wrap ((b.length : Int) + 1) = ((b.length + 1 : Nat) : Int) := by rw [wrap_i64 (by omega) (by omega)]; omega
             have hta : List.take (b.length + 1) (b.map encB ++ [IV.int .u8 201]) = b.map encB ++ [IV.int .u8 201] := List.take_of_length_le (by simp)
             (simp -implicitDefEqProofs +contextual (maxSteps := 8000000) only [go_sem, ↓reduceIte, Nat.reduceEqDiff, Nat.reduceAdd, Nat.reduceSub, Nat.reduceLeDiff, Nat.reduceMul, reduceCtorEq, Nat.reduceBEq, Int.reduceLT, Int.reduceLE, Int.reduceNeg, Int.reduceEq, Int.reduceToNat, Nat.reducePow, Nat.reduceLT, Nat.reduceDiv, Nat.reduceMod, encSL, envKL, t0, t5, t10, t12, t18, p12', q10', hlt, hlc, hl4, lk_upd, i_wire_Split, i_cartouchelaw1_same, i_cartoucheref1_List, hsm, hli, hix, hwb, hta, Int.toNat_natCast, Option.some.injEq, forall_eq'])
             exact ⟨by omega, by omega⟩
        | false =>
         rw [itL, if_neg (by rw [hne]; simp)] at e12'
         have he0 : es = [] := by simpa [chk] using hne
         subst he0
         refine vc_loop (fun n s => KLive b [] (.lst 12 1) s ∧ lk s.ρ 16 = some (.iv (.int .i64 0)) ∧ lk s.σ 12 = some (1, .list 60 4 [])) 1 ⟨⟨by simp [lk, t0], by simp [lk, t5], by simp [lk, t10], by simp [lk, t12], by simp [lk_upd, q10]⟩, by simp [lk], by simp [lk_upd, e12']⟩ ?_
         clear t0 t5 t10 t12 t9 t15 p40 hfr g1 g2 g4 hlt q10 e12'
         rintro n s ⟨⟨t0, t5, t10, t12, q10⟩, t16, p12⟩
         (simp -implicitDefEqProofs +contextual (maxSteps := 8000000) only [go_sem, ↓reduceIte, Nat.reduceEqDiff, Nat.reduceAdd, Nat.reduceSub, Nat.reduceLeDiff, Nat.reduceMul, reduceCtorEq, Nat.reduceBEq, Int.reduceLT, Int.reduceLE, Int.reduceNeg, Int.reduceEq, Int.reduceToNat, Nat.reducePow, Nat.reduceLT, Nat.reduceDiv, Nat.reduceMod, envKL, t10, t16, lk_upd, p12])
         refine vc_loop (fun n s => KLive b [] (.lst 12 1) s ∧ lk s.ρ 18 = some (.iv (.int .i64 0)) ∧ lk s.σ 12 = some (1, .list 60 4 [])) 1 ⟨⟨by simp [lk, t0], by simp [lk, t5], by simp [lk, t10], by simp [lk, t12], by simp [lk_upd, q10]⟩, by simp [lk], by simp [lk_upd, p12]⟩ ?_
         clear t0 t5 t10 t12 t16 q10 p12
         rintro n s ⟨⟨t0, t5, t10, t12, q10'⟩, t18, p12⟩
         have hli : g_cartoucheref1_List [.slice (([] : List Ent).map encE), .slice (([] : List Ent).map encE)] = some (.bool true) := by
           have := g_cartoucheref1_List_is [] []
           rw [if_pos (by simp)] at this
           simpa [encEs] using this
         simp only [List.map_nil] at hli
         have hsm := g_cartouchelaw1_same_is b b
         simp only [decide_true] at hsm
         (simp -implicitDefEqProofs +contextual (maxSteps := 8000000) only [go_sem, ↓reduceIte, Nat.reduceEqDiff, Nat.reduceAdd, Nat.reduceSub, Nat.reduceLeDiff, Nat.reduceMul, reduceCtorEq, Nat.reduceBEq, Int.reduceLT, Int.reduceLE, Int.reduceNeg, Int.reduceEq, Int.reduceToNat, Nat.reducePow, Nat.reduceLT, Nat.reduceDiv, Nat.reduceMod, envKL, t0, t5, t10, t12, t18, lk_upd, i_wire_Split, p12])
         refine vcExD_mk (.iv (encSL (spL b))) _ (split_fz b _ hb) ?_
         rw [hes]
         have hix : (b.map encB ++ [IV.int .u8 201])[b.length]? = some (.int .u8 201) := by
           rw [List.getElem?_append_right (by simp)]; simp
         have hwb : IntKind.i64.wrap ((b.length : Int) + 1) = ((b.length + 1 : Nat) : Int) := by rw [wrap_i64 (by omega) (by omega)]; omega
         have hta : List.take (b.length + 1) (b.map encB ++ [IV.int .u8 201]) = b.map encB ++ [IV.int .u8 201] := List.take_of_length_le (by simp)
         (simp -implicitDefEqProofs +contextual (maxSteps := 8000000) only [go_sem, ↓reduceIte, Nat.reduceEqDiff, Nat.reduceAdd, Nat.reduceSub, Nat.reduceLeDiff, Nat.reduceMul, reduceCtorEq, Nat.reduceBEq, Int.reduceLT, Int.reduceLE, Int.reduceNeg, Int.reduceEq, Int.reduceToNat, Nat.reducePow, Nat.reduceLT, Nat.reduceDiv, Nat.reduceMod, encSL, envKL, t0, t5, t10, t12, t18, q10', lk_upd, i_wire_Split, i_cartouchelaw1_same, i_cartoucheref1_List, hsm, hli, List.map_nil, hix, hwb, hta, Int.toNat_natCast, Option.some.injEq, forall_eq', p12])
         exact ⟨by omega, by omega⟩
  · rw [resS, if_neg h0, putS, if_neg h0]
    have hsE := spF_er0 (b.length + 1) 0 [] (b := b) h0
    (simp -implicitDefEqProofs +contextual (maxSteps := 8000000) only [go_sem, ↓reduceIte, Nat.reduceEqDiff, Nat.reduceAdd, Nat.reduceSub, Nat.reduceLeDiff, Nat.reduceMul, reduceCtorEq, Nat.reduceBEq, Int.reduceLT, Int.reduceLE, Int.reduceNeg, Int.reduceEq, Int.reduceToNat, Nat.reducePow, Nat.reduceLT, Nat.reduceDiv, Nat.reduceMod, envKL, i_cartouchelaw1_awake, i_cartouchelaw1_same, i_cartoucheref1_List, i_wire_GetChunk, i_wire_PutChunk, i_wire_Split])
    refine vcExD_mk (.iv (encSL (spL b))) _ (GC.preArg (k := 10) (n := 0) (xs := b.map encB) (ys := [.int .u8 201]) rfl (split_fz b _ hb)) ?_
    have hes : spL b = (([] : List Ent), (spL b).2) := by rw [← hsE]; rfl
    rw [hes]
    (simp -implicitDefEqProofs +contextual (maxSteps := 8000000) only [go_sem, ↓reduceIte, Nat.reduceEqDiff, Nat.reduceAdd, Nat.reduceSub, Nat.reduceLeDiff, Nat.reduceMul, reduceCtorEq, Nat.reduceBEq, Int.reduceLT, Int.reduceLE, Int.reduceNeg, Int.reduceEq, Int.reduceToNat, Nat.reducePow, Nat.reduceLT, Nat.reduceDiv, Nat.reduceMod, encSL, envKL, i_cartouchelaw1_awake, i_cartouchelaw1_same, i_cartoucheref1_List, i_wire_GetChunk, i_wire_PutChunk, i_wire_Split])
    obtain ⟨es, hesd⟩ : ∃ es : List Ent, es = [] := ⟨[], rfl⟩
    obtain ⟨σ1, hσ1⟩ : ∃ σ1 : Slots, σ1 = [(0, 2, Item.froz (List.map encB b ++ [IV.int IntKind.u8 201])), (10, 0, Item.pre (List.map encB b) [IV.int IntKind.u8 201]), (1035, 0, Item.list 5 1 (List.map encB (gcAt b k).fst)), (1040, 0, Item.list 5 1 (List.map encB (pcL b)))] := ⟨_, rfl⟩
    have e10 : lk σ1 10 = some (0, .pre (b.map encB) [.int .u8 201]) := by rw [hσ1]; rfl
    have e35 : lk σ1 1035 = some (0, .list 5 1 ((gcAt b k).1.map encB)) := by rw [hσ1]; rfl
    have e40 : lk σ1 1040 = some (0, .list 5 1 ((pcL b).map encB)) := by rw [hσ1]; rfl
    rw [← hσ1]
    refine vc_loop (KC b [] (.iv .nil) σ1) ((gcAt b k).1.length + 1) ⟨(gcAt b k).1.map fun x => (x.toNat : Int), (pcL b).map fun x => (x.toNat : Int), 0, ⟨by simp [lk], by simp [lk], by simp [lk], by simp [lk], e10⟩, by simp [lk], by simp [lk], by simp [lk], by rw [← bz_enc]; exact e35, by rw [← bz_enc]; exact e40, fun _ _ _ => rfl, by omega, by simp, by simp; omega, by have := pc_len hb; simp; omega⟩ ?_
    rintro n s ⟨ys, zs, i, ⟨t0, t5, t10, t12, q10⟩, t6, t9, t14, p35, p40, hfr, g1, g2, g3, g4⟩
    by_cases hlt : i < ys.length
    · obtain ⟨w, hw⟩ : ∃ w, ys[i]? = some w := ⟨ys[i], by simp [hlt]⟩
      have hg := bz_at hw
      have hj1 : i + 1 ≤ ys.length := by omega
      have hw1 : IntKind.i64.wrap ((i : Int) + 1) = ((i + 1 : Nat) : Int) := by rw [wrap_i64 (by omega) (by omega)]; omega
      (simp -implicitDefEqProofs +contextual (maxSteps := 8000000) only [go_sem, ↓reduceIte, Nat.reduceEqDiff, Nat.reduceAdd, Nat.reduceSub, Nat.reduceLeDiff, Nat.reduceMul, reduceCtorEq, Nat.reduceBEq, Int.reduceLT, Int.reduceLE, Int.reduceNeg, Int.reduceEq, Int.reduceToNat, Nat.reducePow, Nat.reduceLT, Nat.reduceDiv, Nat.reduceMod, envKL, t6, t9, t14, p35, p40, lk_upd, hlt, bz_len, bz_flat, bz_set, hg, hw1, hj1, List.headD_cons])
      refine ⟨n - 1, by omega, ys.set i 99, zs, i + 1, ⟨by simp [lk, t0], by simp [lk, t5], by simp [lk, t10], by simp [lk, t12], by simp [lk_upd, q10]⟩, by simp [lk, t6], by simp [lk, t9], by simp [lk], by simp [lk_upd], by simp [lk_upd, p40], fun x h1 h2 => by simp [lk_upd, Ne.symm h1]; exact hfr x h1 h2, by simp; omega, by simp; omega, by simp; omega, g4⟩
    · (simp -implicitDefEqProofs +contextual (maxSteps := 8000000) only [go_sem, ↓reduceIte, Nat.reduceEqDiff, Nat.reduceAdd, Nat.reduceSub, Nat.reduceLeDiff, Nat.reduceMul, reduceCtorEq, Nat.reduceBEq, Int.reduceLT, Int.reduceLE, Int.reduceNeg, Int.reduceEq, Int.reduceToNat, Nat.reducePow, Nat.reduceLT, Nat.reduceDiv, Nat.reduceMod, envKL, t6, t9, t14, p35, p40, lk_upd, hlt, bz_len, bz_flat, bz_set])
      refine ⟨by omega, ?_⟩
      refine vc_loop (KP b [] (.iv .nil) σ1) (zs.length + 1) ⟨zs, 0, ⟨by simp [lk, t0], by simp [lk, t5], by simp [lk, t10], by simp [lk, t12], by simp [lk_upd, q10]⟩, by simp [lk, t9], by simp [lk], by simp [lk_upd, p40], fun x h1 h2 => by simp [lk_upd, Ne.symm h1]; exact hfr x h1 h2, by omega, by omega, g4⟩ ?_
      clear t0 t5 t10 t12 t6 t9 t14 p35 p40 q10 hfr g1 g2 g3 g4 hlt
      rintro n s ⟨zs, i, ⟨t0, t5, t10, t12, q10⟩, t9, t15, p40, hfr, g1, g2, g4⟩
      by_cases hlt : i < zs.length
      · obtain ⟨w, hw⟩ : ∃ w, zs[i]? = some w := ⟨zs[i], by simp [hlt]⟩
        have hg := bz_at hw
        have hj1 : i + 1 ≤ zs.length := by omega
        have hw1 : IntKind.i64.wrap ((i : Int) + 1) = ((i + 1 : Nat) : Int) := by rw [wrap_i64 (by omega) (by omega)]; omega
        (simp -implicitDefEqProofs +contextual (maxSteps := 8000000) only [go_sem, ↓reduceIte, Nat.reduceEqDiff, Nat.reduceAdd, Nat.reduceSub, Nat.reduceLeDiff, Nat.reduceMul, reduceCtorEq, Nat.reduceBEq, Int.reduceLT, Int.reduceLE, Int.reduceNeg, Int.reduceEq, Int.reduceToNat, Nat.reducePow, Nat.reduceLT, Nat.reduceDiv, Nat.reduceMod, envKL, t9, t15, p40, lk_upd, hlt, bz_len, bz_flat, bz_set, hg, hw1, hj1, List.headD_cons])
        refine ⟨n - 1, by omega, zs.set i 96, i + 1, ⟨by simp [lk, t0], by simp [lk, t5], by simp [lk, t10], by simp [lk, t12], by simp [lk_upd, q10]⟩, by simp [lk, t9], by simp [lk], by simp [lk_upd], fun x h1 h2 => by simp [lk_upd, Ne.symm h2]; exact hfr x h1 h2, by simp; omega, by simp; omega, by simp; omega⟩
      · (simp -implicitDefEqProofs +contextual (maxSteps := 8000000) only [go_sem, ↓reduceIte, Nat.reduceEqDiff, Nat.reduceAdd, Nat.reduceSub, Nat.reduceLeDiff, Nat.reduceMul, reduceCtorEq, Nat.reduceBEq, Int.reduceLT, Int.reduceLE, Int.reduceNeg, Int.reduceEq, Int.reduceToNat, Nat.reducePow, Nat.reduceLT, Nat.reduceDiv, Nat.reduceMod, envKL, t9, t15, p40, lk_upd, hlt, bz_len, bz_flat, bz_set])
        refine ⟨by omega, ?_⟩
        refine vc_loop (fun n s => KLive b [] (.iv .nil) s ∧ lk s.ρ 16 = some (.iv (.int .i64 0))) 1 ⟨⟨by simp [lk, t0], by simp [lk, t5], by simp [lk, t10], by simp [lk, t12], by simp [lk_upd, q10]⟩, by simp [lk]⟩ ?_
        clear t0 t5 t10 t12 t9 t15 p40 hfr g1 g2 g4 hlt q10
        rintro n s ⟨⟨t0, t5, t10, t12, q10⟩, t16⟩
        (simp -implicitDefEqProofs +contextual (maxSteps := 8000000) only [go_sem, ↓reduceIte, Nat.reduceEqDiff, Nat.reduceAdd, Nat.reduceSub, Nat.reduceLeDiff, Nat.reduceMul, reduceCtorEq, Nat.reduceBEq, Int.reduceLT, Int.reduceLE, Int.reduceNeg, Int.reduceEq, Int.reduceToNat, Nat.reducePow, Nat.reduceLT, Nat.reduceDiv, Nat.reduceMod, envKL, t10, t16, lk_upd])
        refine vc_loop (fun n s => KLive b [] (.iv .nil) s ∧ lk s.ρ 18 = some (.iv (.int .i64 0))) 1 ⟨⟨by simp [lk, t0], by simp [lk, t5], by simp [lk, t10], by simp [lk, t12], by simp [lk_upd, q10]⟩, by simp [lk]⟩ ?_
        clear t0 t5 t10 t12 t16 q10
        rintro n s ⟨⟨t0, t5, t10, t12, q10'⟩, t18⟩
        have hli : g_cartoucheref1_List [.slice (([] : List Ent).map encE), .slice (([] : List Ent).map encE)] = some (.bool true) := by
          have := g_cartoucheref1_List_is [] []
          rw [if_pos (by simp)] at this
          simpa [encEs] using this
        simp only [List.map_nil] at hli
        have hsm := g_cartouchelaw1_same_is b b
        simp only [decide_true] at hsm
        (simp -implicitDefEqProofs +contextual (maxSteps := 8000000) only [go_sem, ↓reduceIte, Nat.reduceEqDiff, Nat.reduceAdd, Nat.reduceSub, Nat.reduceLeDiff, Nat.reduceMul, reduceCtorEq, Nat.reduceBEq, Int.reduceLT, Int.reduceLE, Int.reduceNeg, Int.reduceEq, Int.reduceToNat, Nat.reducePow, Nat.reduceLT, Nat.reduceDiv, Nat.reduceMod, envKL, t0, t5, t10, t12, t18, lk_upd, i_wire_Split])
        refine vcExD_mk (.iv (encSL (spL b))) _ (split_fz b _ hb) ?_
        rw [hes]
        have hix : (b.map encB ++ [IV.int .u8 201])[b.length]? = some (.int .u8 201) := by
          rw [List.getElem?_append_right (by simp)]; simp
        have hwb : IntKind.i64.wrap ((b.length : Int) + 1) = ((b.length + 1 : Nat) : Int) := by rw [wrap_i64 (by omega) (by omega)]; omega
        have hta : List.take (b.length + 1) (b.map encB ++ [IV.int .u8 201]) = b.map encB ++ [IV.int .u8 201] := List.take_of_length_le (by simp)
        (simp -implicitDefEqProofs +contextual (maxSteps := 8000000) only [go_sem, ↓reduceIte, Nat.reduceEqDiff, Nat.reduceAdd, Nat.reduceSub, Nat.reduceLeDiff, Nat.reduceMul, reduceCtorEq, Nat.reduceBEq, Int.reduceLT, Int.reduceLE, Int.reduceNeg, Int.reduceEq, Int.reduceToNat, Nat.reducePow, Nat.reduceLT, Nat.reduceDiv, Nat.reduceMod, encSL, envKL, t0, t5, t10, t12, t18, q10', lk_upd, i_wire_Split, i_cartouchelaw1_same, i_cartoucheref1_List, hsm, hli, List.map_nil, hix, hwb, hta, Int.toNat_natCast, Option.some.injEq, forall_eq'])
        exact ⟨by omega, by omega⟩
end Go.Proofs.Ytfmeedphpcjkmaa.Ag
