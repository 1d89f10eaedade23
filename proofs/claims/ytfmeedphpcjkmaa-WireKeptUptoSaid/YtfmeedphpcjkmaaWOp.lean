/- The laws WireJoins and WireBack, walked. -/
import Derived.Test.YtfmeedphpcjkmaaWRd
import Derived.Test.YtfmeedphpcjkmaaAgO
set_option linter.unusedVariables false
set_option linter.unusedSimpArgs false
set_option maxRecDepth 100000
set_option maxHeartbeats 4000000
namespace Go.Proofs.Ytfmeedphpcjkmaa.Ag
def envL11 : Env := { fc := [(i_cartouchelaw1_awake, g_cartouchelaw1_awake), (i_wire_Join, g_wire_Join), (i_wire_Split, g_wire_Split), (i_cartoucheref1_List, g_cartoucheref1_List)] }
theorem envL11_ok : EnvOk Try.prog envL11 := (((EnvOk.none.addF g_cartoucheref1_List_ok).addF g_wire_Split_ok).addF g_wire_Join_ok).addF g_cartouchelaw1_awake_ok
theorem spF_err (b : List UInt8) : ∀ (f at_ : Nat) (acc : List Ent), ¬ (spF b f at_ acc).2 = 0 → (spF b f at_ acc).1 = []
  | 0, _, _, _ => by simp [spF]
  | f + 1, at_, acc, h => by
    rw [spF] at h ⊢
    split at h
    · rename_i h1; rw [if_pos h1]
      split at h
      · rename_i h2; rw [if_pos h2]; exact spF_err b f _ _ h
      · rename_i h2; rw [if_neg h2]
    · simp at h
theorem pair0 {α : Type} {p : α × Nat} (h : p.2 = 0) : p = (p.1, 0) := by rw [← h]
theorem jnF_list {l : List Ent} (h : (jnF l []).2 = 0) (hl : okEs l = true) : jnF l [] = (bytesOf' l, 0) ∧ spL (bytesOf' l) = (l, 0) := by
  have h1 := jnF_ok l [] h
  refine ⟨by rw [jnF_acc l [] h1]; simp [bytesOf'], spL_put l fun e he => ?_⟩
  have hsz : szEs l ≤ 1000000000 := by simp only [okEs, Bool.and_eq_true, decide_eq_true_eq] at hl; exact hl.2
  obtain ⟨i, hi⟩ := List.getElem?_of_mem he
  have := szEs_get hi
  have h3 : szEs (l.drop i) ≤ szEs l := by
    have : ∀ (l : List Ent) (i : Nat), szEs (l.drop i) ≤ szEs l := by
      intro l
      induction l with
      | nil => intro i; simp
      | cons a l ih => intro i; cases i with
        | zero => simp
        | succ i => have := ih i; rw [szEs_cons]; simp; omega
    exact this l i
  exact ⟨okEs_get hl hi, by omega, h1 e he⟩
theorem bytesOf_len : ∀ {l : List Ent}, (∀ e ∈ l, e.n < 18446744073709551616) → szEs l ≤ 1000000000 → (bytesOf' l).length ≤ szEs l
  | [], _, _ => by simp [bytesOf']
  | e :: l, h, hs => by
    rw [szEs_cons] at hs ⊢
    have h1 := peS_len (h e (by simp)) (by omega)
    have h2 := bytesOf_len (l := l) (fun x hx => h x (by simp [hx])) (by omega)
    simp only [bytesOf', List.map_cons, List.flatten_cons, List.length_append] at h2 ⊢
    omega
theorem bytesOf_len' {l : List Ent} (hl : okEs l = true) : (bytesOf' l).length ≤ 1000000000 := by
  simp only [okEs, Bool.and_eq_true, List.all_eq_true, decide_eq_true_eq] at hl
  have := bytesOf_len hl.1 hl.2
  omega
theorem wireJoins_fc (l : List Ent) (x y : List UInt8) (hl : okEs l = true) (hx : x.length ≤ 2000000) (hy : y.length ≤ 2000000) : FC Try.prog i_cartouchelaw1_WireJoins [encEs l, .slice (x.map encB), .slice (y.map encB)] (· = .bool true) := by
  have hjn : ∀ l, g_wire_Join [.slice (l.map encE)] = if okEs l = true then some (encPT (jnF l [])) else none := fun l => g_wire_Join_is l
  have hjn2 : ∀ l m : List Ent, g_wire_Join [.slice (l.map encE ++ m.map encE)] = if okEs (l ++ m) = true then some (encPT (jnF (l ++ m) [])) else none := fun l m => by rw [← List.map_append]; exact g_wire_Join_is _
  have hli : ∀ a b : List Ent, g_cartoucheref1_List [.slice (a.map encE), .slice (b.map encE)] = if a.length ≤ 140737488351232 then some (.bool (decide (a = b))) else none := fun a b => g_cartoucheref1_List_is a b
  have hli2 : ∀ a b c : List Ent, g_cartoucheref1_List [.slice (a.map encE), .slice (b.map encE ++ c.map encE)] = if a.length ≤ 140737488351232 then some (.bool (decide (a = b ++ c))) else none := fun a b c => by rw [← List.map_append]; exact g_cartoucheref1_List_is a _
  have hsp2 : ∀ a b : List UInt8, g_wire_Split [.slice (a.map encB ++ b.map encB)] = if (a ++ b).length ≤ 100000000000 then some (encSL (spL (a ++ b))) else none := fun a b => by rw [← List.map_append]; exact g_wire_Split_is _
  have hl1 := fun h => jnF_list (l := l) h hl
  have hl2 := bytesOf_len' hl
  have hl3 : l.length ≤ 140737488351232 := by
    have := szEs_len l
    simp only [okEs, Bool.and_eq_true, decide_eq_true_eq] at hl
    omega
  by_cases hj : (jnF l []).2 = 0
  all_goals by_cases hxy : (spL x).2 = 0 ∧ (spL y).2 = 0
  · obtain ⟨e1, e2⟩ := hl1 hj
    have ex := pair0 hxy.1
    have ey := pair0 hxy.2
    generalize (spL x).1 = lx at ex
    generalize (spL y).1 = ly at ey
    have exy := spL_append ex ey
    obtain ⟨f1, f2⟩ := spL_fine exy (by simp; omega)
    have e3 : (jnF (lx ++ ly) []).2 = 0 := by rw [jnF_acc _ [] fun e he => (f2 e he).2.2]
    obtain ⟨e4, e5⟩ := jnF_list e3 f1
    have e6 := bytesOf_len' f1
    have e7 := szEs_len (lx ++ ly)
    have e8 : szEs (lx ++ ly) ≤ 1000000000 := by simp only [okEs, Bool.and_eq_true, decide_eq_true_eq] at f1; exact f1.2
    rw [List.length_append] at e7
    (refine FC.vc (envL11_ok) F_cartouchelaw1_WireJoins T_cartouchelaw1_WireJoins L_cartouchelaw1_WireJoins ?_; unfold A_cartouchelaw1_WireJoins; simp only [args0, List.map_cons, List.map_nil, List.zipIdx_cons, List.zipIdx_nil, Nat.reduceAdd])
    (simp -implicitDefEqProofs +contextual (maxSteps := 8000000) only [go_sem, ↓reduceIte, Nat.reduceEqDiff, Nat.reduceAdd, Nat.reduceSub, Nat.reduceLeDiff, Nat.reduceMul, reduceCtorEq, Nat.reduceBEq, Int.reduceLT, Int.reduceLE, Int.reduceNeg, Int.reduceEq, Int.reduceToNat, Nat.reducePow, Nat.reduceLT, Nat.reduceDiv, Nat.reduceMod, encEs, encPT, encSL, envL11, i_cartouchelaw1_awake, i_wire_Join, i_wire_Split, i_cartoucheref1_List, g_cartouchelaw1_awake_is, hjn, hjn2, hli, hli2, hsp2, g_wire_Split_is, hl, e1, e2, ex, ey, exy, f1, e4, e5])
    exact ⟨by omega, hl3, by omega, by omega, by omega, by omega, by omega, by omega, oneSize_ents lx, by omega, oneSize_ents ly, by omega, by omega, by omega⟩
  · obtain ⟨e1, e2⟩ := hl1 hj
    have hx3 : ¬ (spL x).2 = 0 ∨ ¬ (spL y).2 = 0 := by
      by_cases h : (spL x).2 = 0
      · exact .inr fun h2 => hxy ⟨h, h2⟩
      · exact .inl h
    have k1 := spF_err x (x.length + 1) 0 []
    have k2 := spF_err y (y.length + 1) 0 []
    (refine FC.vc (envL11_ok) F_cartouchelaw1_WireJoins T_cartouchelaw1_WireJoins L_cartouchelaw1_WireJoins ?_; unfold A_cartouchelaw1_WireJoins; simp only [args0, List.map_cons, List.map_nil, List.zipIdx_cons, List.zipIdx_nil, Nat.reduceAdd])
    (simp -implicitDefEqProofs +contextual (maxSteps := 8000000) only [go_sem, ↓reduceIte, Nat.reduceEqDiff, Nat.reduceAdd, Nat.reduceSub, Nat.reduceLeDiff, Nat.reduceMul, reduceCtorEq, Nat.reduceBEq, Int.reduceLT, Int.reduceLE, Int.reduceNeg, Int.reduceEq, Int.reduceToNat, Nat.reducePow, Nat.reduceLT, Nat.reduceDiv, Nat.reduceMod, encEs, encPT, encSL, envL11, i_cartouchelaw1_awake, i_wire_Join, i_wire_Split, i_cartoucheref1_List, g_cartouchelaw1_awake_is, hjn, hli, hli2, hsp2, g_wire_Split_is, hl, e1, e2, hx3])
    have q1 : (spL x).2 = 0 ∨ (spL x).1.length = 0 := by
      by_cases h : (spL x).2 = 0
      · exact .inl h
      · exact .inr (by rw [show (spL x).1 = [] from k1 h]; rfl)
    have q2 : (spL y).2 = 0 ∨ (spL y).1.length = 0 := by
      by_cases h : (spL y).2 = 0
      · exact .inl h
      · exact .inr (by rw [show (spL y).1 = [] from k2 h]; rfl)
    exact ⟨by omega, hl3, by omega, by omega, ⟨q1, q2⟩, fun h => absurd h hxy⟩
  · have ex := pair0 hxy.1
    have ey := pair0 hxy.2
    generalize (spL x).1 = lx at ex
    generalize (spL y).1 = ly at ey
    have exy := spL_append ex ey
    obtain ⟨f1, f2⟩ := spL_fine exy (by simp; omega)
    have e3 : (jnF (lx ++ ly) []).2 = 0 := by rw [jnF_acc _ [] fun e he => (f2 e he).2.2]
    obtain ⟨e4, e5⟩ := jnF_list e3 f1
    have e6 := bytesOf_len' f1
    have e7 := szEs_len (lx ++ ly)
    have e8 : szEs (lx ++ ly) ≤ 1000000000 := by simp only [okEs, Bool.and_eq_true, decide_eq_true_eq] at f1; exact f1.2
    rw [List.length_append] at e7
    (refine FC.vc (envL11_ok) F_cartouchelaw1_WireJoins T_cartouchelaw1_WireJoins L_cartouchelaw1_WireJoins ?_; unfold A_cartouchelaw1_WireJoins; simp only [args0, List.map_cons, List.map_nil, List.zipIdx_cons, List.zipIdx_nil, Nat.reduceAdd])
    (simp -implicitDefEqProofs +contextual (maxSteps := 8000000) only [go_sem, ↓reduceIte, Nat.reduceEqDiff, Nat.reduceAdd, Nat.reduceSub, Nat.reduceLeDiff, Nat.reduceMul, reduceCtorEq, Nat.reduceBEq, Int.reduceLT, Int.reduceLE, Int.reduceNeg, Int.reduceEq, Int.reduceToNat, Nat.reducePow, Nat.reduceLT, Nat.reduceDiv, Nat.reduceMod, encEs, encPT, encSL, envL11, i_cartouchelaw1_awake, i_wire_Join, i_wire_Split, i_cartoucheref1_List, g_cartouchelaw1_awake_is, hjn, hjn2, hli, hli2, hsp2, g_wire_Split_is, hl, hj, ex, ey, exy, f1, e4, e5])
    exact ⟨by omega, by omega, by omega, by omega, by omega, by omega, oneSize_ents lx, by omega, oneSize_ents ly, by omega, by omega, by omega⟩
  · have hx3 : ¬ (spL x).2 = 0 ∨ ¬ (spL y).2 = 0 := by
      by_cases h : (spL x).2 = 0
      · exact .inr fun h2 => hxy ⟨h, h2⟩
      · exact .inl h
    have k1 := spF_err x (x.length + 1) 0 []
    have k2 := spF_err y (y.length + 1) 0 []
    (refine FC.vc (envL11_ok) F_cartouchelaw1_WireJoins T_cartouchelaw1_WireJoins L_cartouchelaw1_WireJoins ?_; unfold A_cartouchelaw1_WireJoins; simp only [args0, List.map_cons, List.map_nil, List.zipIdx_cons, List.zipIdx_nil, Nat.reduceAdd])
    (simp -implicitDefEqProofs +contextual (maxSteps := 8000000) only [go_sem, ↓reduceIte, Nat.reduceEqDiff, Nat.reduceAdd, Nat.reduceSub, Nat.reduceLeDiff, Nat.reduceMul, reduceCtorEq, Nat.reduceBEq, Int.reduceLT, Int.reduceLE, Int.reduceNeg, Int.reduceEq, Int.reduceToNat, Nat.reducePow, Nat.reduceLT, Nat.reduceDiv, Nat.reduceMod, encEs, encPT, encSL, envL11, i_cartouchelaw1_awake, i_wire_Join, i_wire_Split, i_cartoucheref1_List, g_cartouchelaw1_awake_is, hjn, hli, hli2, hsp2, g_wire_Split_is, hl, hj, hx3])
    have q1 : (spL x).2 = 0 ∨ (spL x).1.length = 0 := by
      by_cases h : (spL x).2 = 0
      · exact .inl h
      · exact .inr (by rw [show (spL x).1 = [] from k1 h]; rfl)
    have q2 : (spL y).2 = 0 ∨ (spL y).1.length = 0 := by
      by_cases h : (spL y).2 = 0
      · exact .inl h
      · exact .inr (by rw [show (spL y).1 = [] from k2 h]; rfl)
    exact ⟨by omega, by omega, ⟨q1, q2⟩, fun h => absurd h hxy⟩
def envL8 : Env := { fc := [(i_cartouchelaw1_awake, g_cartouchelaw1_awake), (i_wire_GetVarint, g_wire_GetVarint), (i_wire_Size, g_wire_Size), (i_wire_ZigZag, g_wire_ZigZag), (i_wire_ZagZig, g_wire_ZagZig), (i_wire_PutChunk, g_wire_PutChunk), (i_wire_GetChunk, g_wire_GetChunk), (i_cartouchelaw1_same, g_cartouchelaw1_same), (i_wire_PutEntry, g_wire_PutEntry), (i_wire_GetEntry, g_wire_GetEntry), (i_cartoucheref1_Same, g_cartoucheref1_Same)], oc := [(i_wire_PutVarint, g_wire_PutVarint)] }
theorem envL8_ok : EnvOk Try.prog envL8 := (((((((((((EnvOk.none.addF g_cartoucheref1_Same_ok).addF g_wire_GetEntry_ok).addF g_wire_PutEntry_ok).addF g_cartouchelaw1_same_ok).addF g_wire_GetChunk_ok).addF g_wire_PutChunk_ok).addF g_wire_ZagZig_ok).addF g_wire_ZigZag_ok).addF g_wire_Size_ok).addF g_wire_GetVarint_ok).addF g_cartouchelaw1_awake_ok).addO g_wire_PutVarint_ok
theorem wrapi64_range (n : Nat) (hn : n < 18446744073709551616) : -9223372036854775808 ≤ IntKind.i64.wrap (n : Int) ∧ IntKind.i64.wrap (n : Int) < 9223372036854775808 := by
  simp only [IntKind.wrap, IntKind.bits, IntKind.signed]
  simp
  split <;> omega
theorem zag_zz {m : Int} (h1 : -9223372036854775808 ≤ m) (h2 : m < 9223372036854775808) : zag (zz m) = m := by
  unfold zag zz
  split <;> split <;> omega
theorem zz_range {m : Int} (h1 : -9223372036854775808 ≤ m) (h2 : m < 9223372036854775808) : 0 ≤ zz m ∧ zz m < 18446744073709551616 := by
  unfold zz
  split <;> omega
theorem peS_err {e : Ent} (h : ¬ (peS e).2 = 0) : (peS e).1.length = 0 := by
  unfold peS at h ⊢
  split
  · rfl
  · rename_i h1
    rw [if_neg h1] at h
    split
    · rename_i h2
      rw [if_pos h2] at h
      split
      · rename_i h3; rw [if_pos h3] at h; exact absurd rfl h
      · rfl
    · rfl
theorem wireBack_fc (n : Nat) (e : Ent) (x y : List UInt8) (hn : n < 18446744073709551616) (he : e.n < 18446744073709551616) (heb : e.b.length ≤ 2000000) (hx : x.length ≤ 2000000) (hy : y.length ≤ 2000000) : FC Try.prog i_cartouchelaw1_WireBack [.int .u64 n, encE e, .slice (x.map encB), .slice (y.map encB)] (· = .bool true) := by
  have hpe := g_wire_PutEntry_is e
  rw [if_pos ⟨he, by omega⟩] at hpe
  have hsm := g_cartoucheref1_Same_is e
  have hn' : (n : Int) < 18446744073709551616 := by omega
  have hv := pvL_len10 (n := n) hn
  have hv2 := pvL_len10 (n := y.length) (by omega)
  have hpl := peS_len he (by omega)
  have hpc : (pcL y).length = (pvL y.length).length + y.length := by simp [pcL]
  have h1 : g_wire_GetVarint [.slice (x.map encB ++ (pvL n).map encB ++ y.map encB), .int .i64 (x.length : Int)] = some (encGV (n, x.length + (pvL n).length, 0)) := by
    rw [← List.map_append, ← List.map_append, g_wire_GetVarint_is, if_pos (by simp; omega), List.append_assoc, gvAt_put x y hn]
  have h3 : g_wire_GetChunk [.slice (x.map encB ++ (pcL y).map encB), .int .i64 (x.length : Int)] = some (encGC (y, x.length + (pcL y).length, 0)) := by
    have := gcAt_put x [] y (by omega)
    rw [List.append_nil] at this
    rw [← List.map_append, g_wire_GetChunk_is, if_pos (by simp; omega), this]
  have h4 : (peS e).2 = 0 → g_wire_GetEntry [.slice (x.map encB ++ (peS e).1.map encB ++ y.map encB), .int .i64 (x.length : Int)] = some (encGE (e, x.length + (peS e).1.length, 0)) := by
    intro h
    rw [← List.map_append, ← List.map_append, g_wire_GetEntry_is, if_pos (by simp; omega), List.append_assoc, geAt_put x y he (by omega) h]
  have hw1 : IntKind.i64.wrap ((x.length : Int) + ((pvL n).length : Int)) = ((x.length + (pvL n).length : Nat) : Int) := by rw [wrap_i64 (by omega) (by omega)]; omega
  have hw2 : IntKind.i64.wrap ((x.length : Int) + ((peS e).1.length : Int)) = ((x.length + (peS e).1.length : Nat) : Int) := by rw [wrap_i64 (by omega) (by omega)]; omega
  obtain ⟨r1, r2⟩ := wrapi64_range n hn
  generalize hm : IntKind.i64.wrap (n : Int) = m at r1 r2
  have hz := zag_zz r1 r2
  have z1 : g_wire_ZigZag [.int .i64 m] = some (.int .u64 (zz m)) := by rw [g_wire_ZigZag_is, if_pos ⟨r1, r2⟩]
  have z2 : g_wire_ZagZig [.int .u64 (zz m)] = some (.int .i64 m) := by
    rw [g_wire_ZagZig_is, if_pos (zz_range r1 r2), hz]
  simp only [encE] at hpe hsm
  by_cases h0 : (peS e).2 = 0
  · have h4' := h4 h0
    have hp0 := pair0 h0
    generalize (peS e).1 = p at hpl hw2 h4' hp0
    clear h4
    (refine FC.vc (envL8_ok) F_cartouchelaw1_WireBack T_cartouchelaw1_WireBack L_cartouchelaw1_WireBack ?_; unfold A_cartouchelaw1_WireBack; simp only [args0, List.map_cons, List.map_nil, List.zipIdx_cons, List.zipIdx_nil, Nat.reduceAdd])
    (simp -implicitDefEqProofs +contextual (maxSteps := 8000000) only [go_sem, ↓reduceIte, Nat.reduceEqDiff, Nat.reduceAdd, Nat.reduceSub, Nat.reduceLeDiff, Nat.reduceMul, reduceCtorEq, Nat.reduceBEq, Int.reduceLT, Int.reduceLE, Int.reduceNeg, Int.reduceEq, Int.reduceToNat, Nat.reducePow, Nat.reduceLT, Nat.reduceDiv, Nat.reduceMod, encPT, encGV, encGC, encGE, encE, envL8, i_cartouchelaw1_awake, i_wire_GetVarint, i_wire_Size, i_wire_ZigZag, i_wire_ZagZig, i_wire_PutChunk, i_wire_GetChunk, i_cartouchelaw1_same, i_wire_PutEntry, i_wire_GetEntry, i_cartoucheref1_Same, i_wire_PutVarint, g_cartouchelaw1_awake_is, h1, g_wire_Size_is, z1, z2, hm, g_wire_PutChunk_is, h3, g_cartouchelaw1_same_is, hpe, h4', hsm, g_wire_PutVarint_is, hn', hw1, hw2, hp0])
    have hp : p.length ≤ 2000030 := by omega
    exact ⟨by omega, by omega, by omega, by omega, by omega, by omega, by omega, by omega, by omega⟩
  · (refine FC.vc (envL8_ok) F_cartouchelaw1_WireBack T_cartouchelaw1_WireBack L_cartouchelaw1_WireBack ?_; unfold A_cartouchelaw1_WireBack; simp only [args0, List.map_cons, List.map_nil, List.zipIdx_cons, List.zipIdx_nil, Nat.reduceAdd])
    (simp -implicitDefEqProofs +contextual (maxSteps := 8000000) only [go_sem, ↓reduceIte, Nat.reduceEqDiff, Nat.reduceAdd, Nat.reduceSub, Nat.reduceLeDiff, Nat.reduceMul, reduceCtorEq, Nat.reduceBEq, Int.reduceLT, Int.reduceLE, Int.reduceNeg, Int.reduceEq, Int.reduceToNat, Nat.reducePow, Nat.reduceLT, Nat.reduceDiv, Nat.reduceMod, encPT, encGV, encGC, encGE, encE, envL8, i_cartouchelaw1_awake, i_wire_GetVarint, i_wire_Size, i_wire_ZigZag, i_wire_ZagZig, i_wire_PutChunk, i_wire_GetChunk, i_cartouchelaw1_same, i_wire_PutEntry, i_wire_GetEntry, i_cartoucheref1_Same, i_wire_PutVarint, g_cartouchelaw1_awake_is, h1, g_wire_Size_is, z1, z2, hm, g_wire_PutChunk_is, h3, g_cartouchelaw1_same_is, hpe, hsm, g_wire_PutVarint_is, hn', hw1, hw2, h0])
    exact ⟨by omega, by omega, by omega, by omega, by omega, by omega, peS_err h0⟩
end Go.Proofs.Ytfmeedphpcjkmaa.Ag
set_option linter.unusedVariables false
set_option linter.unusedSimpArgs false
namespace Go.Proofs.Ytfmeedphpcjkmaa.Ag
def plainW : List TypeId := [3, 5, 22, 23, 56, 60]
theorem plainW_ok : plainSet Try.prog plainW = true := by kernel_rfl
theorem shp_ent {n : Nat} {x : IV} (h : Shp Try.prog n 60 x) : ∃ e : Ent, x = encE e ∧ e.n < 18446744073709551616 ∧ e.b.length + 5 ≤ ivBulk x := by
  obtain ⟨m, ys, rfl, hf⟩ := shp_rec Try.underlying60 h
  match ys, hf with
  | [a, b, c, d], ⟨h1, h2, h3, h4, _⟩ =>
    obtain ⟨n1, rfl, w1⟩ := shp_int Try.underlying3 h1
    obtain ⟨n2, rfl, w2⟩ := shp_int Try.underlying3 h2
    obtain ⟨n3, rfl, w3⟩ := shp_int Try.underlying22 h3
    obtain ⟨bs, rfl, hb⟩ := shp_bytes Try.underlying23 Try.underlying5 h4
    have hr : 0 ≤ n3 ∧ n3 ≤ 18446744073709551615 := by simpa [Lit.wf, IntKind.min, IntKind.max, IntKind.signed, IntKind.bits] using w3
    refine ⟨⟨n1, n2, n3.toNat, bs⟩, ?_, by simp only; omega, ?_⟩
    · simp [flat, IV.cells, encE]; omega
    · simp [flat, IV.cells, ivBulk, ivBulks] at hb ⊢; omega
theorem shp_ents {n : Nat} {x : IV} (h : Shp Try.prog n 56 x) : ∃ l : List Ent, x = encEs l ∧ (∀ e ∈ l, e.n < 18446744073709551616) ∧ szEs l ≤ 8 * ivBulk x := by
  obtain ⟨m, xs, rfl, hx⟩ := shp_slice Try.underlying56 h
  have key : ∀ (xs : List IV), (∀ y ∈ xs, Shp Try.prog m 60 y) → ∃ l : List Ent, xs = l.map encE ∧ (∀ e ∈ l, e.n < 18446744073709551616) ∧ szEs l ≤ 8 * ivBulks xs := by
    intro xs
    induction xs with
    | nil => exact fun _ => ⟨[], rfl, by simp, by simp [szEs]⟩
    | cons y ys ih =>
      intro h
      obtain ⟨l, rfl, h1, h2⟩ := ih fun z hz => h z (by simp [hz])
      obtain ⟨e, rfl, h3, h4⟩ := shp_ent (h y (by simp))
      refine ⟨e :: l, rfl, fun z hz => ?_, ?_⟩
      · rcases List.mem_cons.1 hz with rfl | hz
        · exact h3
        · exact h1 z hz
      · rw [szEs_cons]; simp only [ivBulks]; omega
  obtain ⟨l, rfl, h1, h2⟩ := key xs hx
  exact ⟨l, rfl, h1, by simp only [ivBulk]; omega⟩
theorem okEs_of {l : List Ent} (h1 : ∀ e ∈ l, e.n < 18446744073709551616) (h2 : szEs l ≤ 1000000000) : okEs l = true := by
  simp only [okEs, Bool.and_eq_true, List.all_eq_true, decide_eq_true_eq]
  exact ⟨h1, h2⟩
theorem u64_wf {n : Int} (h : (Lit.int .u64 n).wf = true) : ∃ m : Nat, n = m ∧ m < 18446744073709551616 := by
  have hr : 0 ≤ n ∧ n ≤ 18446744073709551615 := by simpa [Lit.wf, IntKind.min, IntKind.max, IntKind.signed, IntKind.bits] using h
  exact ⟨n.toNat, by omega, by omega⟩
end Go.Proofs.Ytfmeedphpcjkmaa.Ag
