/- The law: what is found and what is passed over make up the stream. -/
import Derived.Test.YtinoaofgbkdohaaZMd
import Derived.Test.YtinoaofgbkdohaaAgXX
import Derived.Test.YtinoaofgbkdohaaAgO
set_option linter.unusedVariables false
set_option linter.unusedSimpArgs false
set_option maxRecDepth 100000
set_option maxHeartbeats 4000000
open List renaming map_cons → zl0, map_nil → zl1, zipIdx_cons → zl2, zipIdx_nil → zl3
open Nat renaming reduceEqDiff → zn0, reduceAdd → zn1, reduceSub → zn2, reduceLeDiff → zn3, reduceMul → zn4, reduceBEq → zn5, reducePow → zn6, reduceLT → zn7, reduceDiv → zn8, reduceMod → zn9
open Int renaming reduceLT → zi0, reduceLE → zi1, reduceNeg → zi2, reduceEq → zi3, reduceToNat → zi4
namespace Go.Proofs.Ytinoaofgbkdohaa.Ag
attribute [-go_sem] Int.not_lt Int.not_le vcDG_bool
noncomputable def envFA : Env := { split := true, fc := [(i_frame_Write, g_frame_Write), (i_frame_Salvage, g_frame_Salvage), (i_cartouchelaw23_awake, g_cartouchelaw23_awake)] }
theorem envFA_ok : EnvOk Try.prog envFA := ((EnvOk.noneS.addF g_cartouchelaw23_awake_ok).addF g_frame_Salvage_ok).addF g_frame_Write_ok
def FaI (b : List UInt8) (ps : List Pt) (k n : Nat) (s : St) : Prop := ∃ i last kk : Nat, lk s.ρ 0 = some (.iv (.slice (b.map encB))) ∧ lk s.ρ 3 = some (.iv (encPts ps)) ∧ lk s.ρ 4 = some (.iv (.int .i64 (k : Int))) ∧ lk s.ρ 5 = some (.iv (.int .i64 ((last + kk : Nat) : Int))) ∧
  lk s.ρ 6 = some (.iv (.int .i64 (last : Int))) ∧ lk s.ρ 7 = some (.iv (.int .i64 (i : Int))) ∧ i ≤ ps.length ∧ ps.length < i + n ∧ Adds b last (ps.drop i) kk ∧ last ≤ b.length
theorem frameAdds_fc (b : List UInt8) (hb : b.length ≤ 1000000000) : FC Try.prog i_cartouchelaw23_FrameAdds [.slice (b.map encB)] (· = .bool true) := by
  have h5 := g_frame_Salvage_is b
  rw [if_pos (by omega)] at h5
  obtain ⟨ps, k, hsv, had⟩ := sv_adds b (b.length + 1) 0 [] 0 (by omega) (by omega)
  have hpl := had.len
  rw [hsv] at h5
  simp only [encSv, List.nil_append, encPts, Nat.zero_add] at h5
  (refine FC.vc (envFA_ok) F_cartouchelaw23_FrameAdds T_cartouchelaw23_FrameAdds L_cartouchelaw23_FrameAdds ?_; unfold A_cartouchelaw23_FrameAdds; simp only [args0, zl0, zl1, zl2, zl3, zn1])
  (simp -implicitDefEqProofs +contextual (maxSteps := 8000000) only [go_sem, ↓reduceIte, zn0, zn1, zn2, zn3, zn4, reduceCtorEq, zn5, zi0, zi1, zi2, zi3, zi4, zn6, zn7, zn8, zn9, encPts, envFA, i_frame_Write, i_frame_Salvage, i_cartouchelaw23_awake, h5, g_cartouchelaw23_awake_is])
  refine vc_loop (FaI b ps k) (ps.length + 1) ⟨0, 0, k, by simp [lk], by simp [lk, encPts], by simp [lk], by simp [lk], by simp [lk], by simp [lk], by omega, by omega, by simpa using had, by omega⟩ ?_
  rintro n s ⟨i, last, kk, t0, t3, t4, t5, t6, t7, g1, g2, g3, g4⟩
  simp only [encPts] at t3
  by_cases hi : i < ps.length
  · obtain ⟨⟨at_, c⟩, hp⟩ : ∃ e, ps[i]? = some e := ⟨ps[i], by simp [hi]⟩
    have hw : IntKind.i64.wrap ((i : Int) + 1) = ((i + 1 : Nat) : Int) := by rw [wrap_i64 (by omega) (by omega)]; omega
    have hgx : (ps.map encPt)[i]? = some (encPt ⟨at_, c⟩) := by simp [hp]
    simp only [encPt, encBs] at hgx
    have hd : ps.drop i = ⟨at_, c⟩ :: ps.drop (i + 1) := by
      have := List.drop_eq_getElem_cons hi
      rw [this]; congr 1
      have h5 := List.getElem?_eq_getElem hi
      rw [h5] at hp; injection hp
    rw [hd] at g3
    obtain ⟨k1, k2, q, hk, ha, hF, hA⟩ := g3
    simp only at ha hF
    have hc := hF.1
    have hq := hF.2.1
    have hql := hF.2.2.1
    have hsl := hF.2.2.2
    have hwr := g_frame_Write_is [c]
    rw [if_pos (by simp only [szW, List.map_cons, List.map_nil, List.sum_cons, List.sum_nil]; omega), wrA_one c hc] at hwr
    simp only [encWr, encL, encBs, List.map_cons, List.map_nil] at hwr
    have := hA.len
    have w1 : IntKind.i64.wrap ((at_ : Int) + ((frL c).length : Int)) = (q : Int) := by rw [wrap_i64 (by omega) (by omega)]; omega
    have w2 : IntKind.i64.wrap (((last + kk : Nat) : Int) + ((frL c).length : Int)) = ((q + k2 : Nat) : Int) := by rw [wrap_i64 (by omega) (by omega)]; omega
    have c1 : ¬ at_ < last := by omega
    have c2 : ¬ b.length < q := by omega
    have c3 : at_ ≤ q := by omega
    (simp -implicitDefEqProofs +contextual (maxSteps := 8000000) only [go_sem, ↓reduceIte, zn0, zn1, zn2, zn3, zn4, reduceCtorEq, zn5, zi0, zi1, zi2, zi3, zi4, zn6, zn7, zn8, zn9, encPts, envFA, i_frame_Write, i_frame_Salvage, i_cartouchelaw23_awake, t0, t3, t4, t5, t6, t7, hi, hgx, hwr, hw, w1, w2, c1, c2, c3, hql, cut_enc, hsl, vcDG_tt, vcDG_ff, vcDG_tf, vcDG_ft, Nat.le_refl, Option.some.injEq, forall_eq'])
    exact ⟨n - 1, by omega, i + 1, q, k2, by simp [lk, t0], by simp [lk, t3, encPts], by simp [lk, t4], by simp [lk], by simp [lk], by simp [lk], by omega, by omega, hA, hql⟩
  · (simp -implicitDefEqProofs +contextual (maxSteps := 8000000) only [go_sem, ↓reduceIte, zn0, zn1, zn2, zn3, zn4, reduceCtorEq, zn5, zi0, zi1, zi2, zi3, zi4, zn6, zn7, zn8, zn9, encPts, envFA, i_frame_Write, i_frame_Salvage, i_cartouchelaw23_awake, t0, t3, t4, t5, t6, t7, hi])
    rw [List.drop_eq_nil_of_le (by omega)] at g3
    exact g3
noncomputable def envFB : Env := { split := true, fc := [(i_frame_Write, g_frame_Write), (i_frame_Read, g_frame_Read), (i_frame_Salvage, g_frame_Salvage), (i_cartouchelaw23_lists, g_cartouchelaw23_lists), (i_cartouchelaw23_awake, g_cartouchelaw23_awake)] }
theorem envFB_ok : EnvOk Try.prog envFB := ((((EnvOk.noneS.addF g_cartouchelaw23_awake_ok).addF g_cartouchelaw23_lists_ok).addF g_frame_Salvage_ok).addF g_frame_Read_ok).addF g_frame_Write_ok
def quietOf (noise : List UInt8) : List UInt8 := noise.filter fun x => decide (x.toNat ≠ 126)
theorem quiet_take {noise : List UInt8} {i : Nat} {x : UInt8} (h : noise[i]? = some x) : quietOf (noise.take (i + 1)) = if x.toNat = 126 then quietOf (noise.take i) else quietOf (noise.take i) ++ [x] := by
  unfold quietOf
  rw [List.take_add_one, h, Option.toList_some, List.filter_append]
  by_cases hx : x.toNat = 126 <;> simp [hx]
theorem quiet_ne (noise : List UInt8) : ∀ x ∈ quietOf noise, x.toNat ≠ 126 := by
  intro x hx
  simpa using (List.mem_filter.1 hx).2
theorem quiet_len (noise : List UInt8) : (quietOf noise).length ≤ noise.length := List.length_filter_le _ _
def spo (quiet : List UInt8) (l : Bss) : List UInt8 := l.flatMap fun c => quiet ++ frL c
theorem spo_len (quiet : List UInt8) : ∀ l : Bss, (∀ c ∈ l, c.length ≤ 65536) → (spo quiet l).length ≤ l.length * quiet.length + szW l
  | [], h => by simp [spo, szW]
  | c :: l, h => by
    have h1 := frL_len c (by have := h c (by simp); omega)
    have h2 := spo_len quiet l (fun x hx => h x (by simp [hx]))
    have h3 : (spo quiet (c :: l)).length = quiet.length + (frL c).length + (spo quiet l).length := by simp only [spo, List.flatMap_cons, List.length_append]
    rw [h3, szW_cons, List.length_cons, Nat.add_mul]; omega
theorem szW_take : ∀ (l : Bss) (i : Nat), szW (l.take i) ≤ szW l
  | [], i => by simp
  | c :: l, 0 => by simp [szW]
  | c :: l, i + 1 => by have := szW_take l i; rw [List.take_succ_cons, szW_cons, szW_cons]; omega
theorem spo_take {quiet : List UInt8} {l : Bss} {i : Nat} {c : List UInt8} (h : l[i]? = some c) : spo quiet (l.take (i + 1)) = spo quiet (l.take i) ++ quiet ++ frL c := by
  unfold spo
  rw [List.take_add_one, h, Option.toList_some, List.flatMap_append]
  simp
def FbQ (l : Bss) (noise : List UInt8) (n : Nat) (s : St) : Prop := ∃ i v : Nat, lk s.ρ 0 = some (.iv (encL l)) ∧ lk s.ρ 1 = some (.iv (.slice (noise.map encB))) ∧ lk s.ρ 12 = some (.iv (.int .i64 (i : Int))) ∧ lk s.ρ 11 = some (.lst 0 v) ∧
  lk s.σ 0 = some (v, .list 5 1 ((quietOf (noise.take i)).map encB)) ∧ lk s.σ 1 = none ∧ i ≤ noise.length ∧ noise.length < i + n
def FbS (l : Bss) (q : List UInt8) (n : Nat) (s : St) : Prop := ∃ i v v1 : Nat, lk s.ρ 0 = some (.iv (encL l)) ∧ lk s.ρ 14 = some (.iv (.int .i64 (i : Int))) ∧ lk s.ρ 11 = some (.lst 0 v) ∧ lk s.ρ 13 = some (.lst 1 v1) ∧
  lk s.σ 0 = some (v, .list 5 1 (q.map encB)) ∧ lk s.σ 1 = some (v1, .list 5 1 ((spo q (l.take i)).map encB)) ∧ i ≤ l.length ∧ l.length < i + n
def FbC (l : Bss) (ps : List Pt) (n : Nat) (s : St) : Prop := ∃ i : Nat, lk s.ρ 0 = some (.iv (encL l)) ∧ lk s.ρ 17 = some (.iv (encPts ps)) ∧ lk s.ρ 19 = some (.iv (.int .i64 (i : Int))) ∧ i ≤ l.length ∧ l.length < i + n
theorem frameBack_fc (l : Bss) (noise : List UInt8) (hl : szW l ≤ 20000000) (hn : l.length ≤ 1100000) (hb : noise.length ≤ 1100000) : FC Try.prog i_cartouchelaw23_FrameBack [encL l, .slice (noise.map encB)] (· = .bool true) := by
  have h1 := g_frame_Write_is l
  rw [if_pos (by omega)] at h1
  simp only [encL] at h1
  cases hw : wrA l [] with
  | none =>
    rw [hw] at h1
    simp only [encWr] at h1
    (refine FC.vc (envFB_ok) F_cartouchelaw23_FrameBack T_cartouchelaw23_FrameBack L_cartouchelaw23_FrameBack ?_; unfold A_cartouchelaw23_FrameBack; simp only [args0, zl0, zl1, zl2, zl3, zn1])
    (simp -implicitDefEqProofs +contextual (maxSteps := 8000000) only [go_sem, ↓reduceIte, zn0, zn1, zn2, zn3, zn4, reduceCtorEq, zn5, zi0, zi1, zi2, zi3, zi4, zn6, zn7, zn8, zn9, encL, encPts, envFB, i_frame_Write, i_frame_Read, i_frame_Salvage, i_cartouchelaw23_lists, i_cartouchelaw23_awake, h1, g_cartouchelaw23_awake_is])
  | some w =>
    rw [hw] at h1
    simp only [encWr, encBs] at h1
    obtain ⟨hall, hwe⟩ := wrA_some l [] w hw
    rw [List.nil_append] at hwe
    have hwl : w.length ≤ szW l := by
      have := spo_len [] l hall
      have e : spo [] l = w := by rw [hwe]; simp [spo]
      rw [e] at this; simpa using this
    have h3 := g_frame_Read_is w
    rw [if_pos (by omega), rd_wr hw] at h3
    simp only [encRd, encL] at h3
    have h5 := g_frame_Salvage_is w
    obtain ⟨ps, hsv, hpb⟩ := sv_quiet [] (by simp) l hall
    have hq0 : qst [] l = w := by rw [hwe]; simp [qst]
    rw [hq0] at hsv
    rw [if_pos (by omega), hsv] at h5
    simp only [encSv, encPts, List.length_nil, Nat.mul_zero] at h5
    have hpl : ps.length = l.length := by rw [← hpb]; simp
    have hln := szW_len l
    have h8 := g_cartouchelaw23_lists_is l l
    rw [if_pos (by omega), decide_eq_true rfl] at h8
    simp only [encL] at h8
    (refine FC.vc (envFB_ok) F_cartouchelaw23_FrameBack T_cartouchelaw23_FrameBack L_cartouchelaw23_FrameBack ?_; unfold A_cartouchelaw23_FrameBack; simp only [args0, zl0, zl1, zl2, zl3, zn1])
    (simp -implicitDefEqProofs +contextual (maxSteps := 8000000) only [go_sem, ↓reduceIte, zn0, zn1, zn2, zn3, zn4, reduceCtorEq, zn5, zi0, zi1, zi2, zi3, zi4, zn6, zn7, zn8, zn9, encL, encPts, envFB, i_frame_Write, i_frame_Read, i_frame_Salvage, i_cartouchelaw23_lists, i_cartouchelaw23_awake, h1, h3, h5, h8, hpl, g_cartouchelaw23_awake_is])
    refine vc_loopN 11 0 5 1 (FbQ l noise) (noise.length + 1) (by simp [lk]) ⟨0, 0, by simp [lk, encL], by simp [lk], by simp [lk], by simp [lk, nxt], by simp [lk, upd, nxt, quietOf], by simp [lk, upd], by omega, by omega⟩ ?_
    rintro n s ⟨i, v, t0, t1, t12, t11, p0, p1, g1, g2⟩
    simp only [encL] at t0
    by_cases hi : i < noise.length
    · obtain ⟨x, hx⟩ : ∃ e, noise[i]? = some e := ⟨noise[i], by simp [hi]⟩
      have hwi : IntKind.i64.wrap ((i : Int) + 1) = ((i + 1 : Nat) : Int) := by rw [wrap_i64 (by omega) (by omega)]; omega
      have hgx : (noise.map encB)[i]? = some (encB x) := by simp [hx]
      simp only [encB] at hgx
      have hqt := quiet_take hx
      have hql := quiet_len (noise.take i)
      simp only [List.length_take] at hql
      by_cases h126 : x.toNat = 126
      · have h126' : (x.toNat : Int) = 126 := by omega
        rw [if_pos h126] at hqt
        (simp -implicitDefEqProofs +contextual (maxSteps := 8000000) only [go_sem, ↓reduceIte, zn0, zn1, zn2, zn3, zn4, reduceCtorEq, zn5, zi0, zi1, zi2, zi3, zi4, zn6, zn7, zn8, zn9, encL, encPts, envFB, i_frame_Write, i_frame_Read, i_frame_Salvage, i_cartouchelaw23_lists, i_cartouchelaw23_awake, t0, t1, t12, t11, p0, p1, hi, hwi, hgx, h126', lk_upd, nxt, Option.some.injEq, forall_eq'])
        exact ⟨n - 1, by omega, i + 1, v, by simp [lk, t0, encL], by simp [lk, t1], by simp [lk], by simp [lk, t11], by rw [hqt]; exact p0, p1, by omega, by omega⟩
      · have h126' : ¬ (x.toNat : Int) = 126 := by omega
        rw [if_neg h126] at hqt
        (simp -implicitDefEqProofs +contextual (maxSteps := 8000000) only [go_sem, ↓reduceIte, zn0, zn1, zn2, zn3, zn4, reduceCtorEq, zn5, zi0, zi1, zi2, zi3, zi4, zn6, zn7, zn8, zn9, encL, encPts, envFB, i_frame_Write, i_frame_Read, i_frame_Salvage, i_cartouchelaw23_lists, i_cartouchelaw23_awake, t0, t1, t12, t11, p0, p1, hi, hwi, hgx, h126', lk_upd, nxt, Option.some.injEq, forall_eq'])
        refine ⟨by omega, n - 1, by omega, i + 1, v + 1, by simp [lk, t0, encL], by simp [lk, t1], by simp [lk], by simp [lk], ?_, by simp [lk_upd, p1], by omega, by omega⟩
        rw [hqt]; simp [lk_upd, encB]
    · rw [List.take_of_length_le (by omega)] at p0
      have hql := quiet_len noise
      have hqne := quiet_ne noise
      generalize quietOf noise = quiet at p0 hql hqne
      (simp -implicitDefEqProofs +contextual (maxSteps := 8000000) only [go_sem, ↓reduceIte, zn0, zn1, zn2, zn3, zn4, reduceCtorEq, zn5, zi0, zi1, zi2, zi3, zi4, zn6, zn7, zn8, zn9, encL, encPts, envFB, i_frame_Write, i_frame_Read, i_frame_Salvage, i_cartouchelaw23_lists, i_cartouchelaw23_awake, t0, t1, t12, t11, p0, p1, hi, lk_upd, nxt])
      refine vc_loopN 13 1 5 1 (FbS l quiet) (l.length + 1) (by simp [lk]) ⟨0, v, 0, by simp [lk, t0, encL], by simp [lk], by simp [lk, t11], by simp [lk, nxt, p1], by simp [lk_upd, p0], by simp [lk_upd, nxt, p1, spo], by omega, by omega⟩ ?_
      clear t0 t1 t12 t11 p0 p1 g1 g2 hi
      rintro n s ⟨i, v, v1, t0, t14, t11, t13, p0, p1, g1, g2⟩
      simp only [encL] at t0
      have hlq : l.length * quiet.length ≤ 1100000 * 1100000 := Nat.mul_le_mul (by omega) (by omega)
      by_cases hi : i < l.length
      · obtain ⟨c, hc⟩ : ∃ e, l[i]? = some e := ⟨l[i], by simp [hi]⟩
        have hcl := hall c (List.mem_of_getElem? hc)
        have hwi : IntKind.i64.wrap ((i : Int) + 1) = ((i + 1 : Nat) : Int) := by rw [wrap_i64 (by omega) (by omega)]; omega
        have hgx : (l.map encBs)[i]? = some (encBs c) := by simp [hc]
        simp only [encBs] at hgx
        have hwr := g_frame_Write_is [c]
        rw [if_pos (by simp only [szW, List.map_cons, List.map_nil, List.sum_cons, List.sum_nil]; omega), wrA_one c hcl] at hwr
        simp only [encWr, encL, encBs, List.map_cons, List.map_nil] at hwr
        have hfl := frL_len c (by omega)
        have hsl := spo_len quiet (l.take i) (fun x hx => hall x (List.mem_of_mem_take hx))
        have hst := szW_take l i
        have hlt : (l.take i).length * quiet.length ≤ 1100000 * 1100000 := Nat.mul_le_mul (by simp; omega) (by omega)
        (simp -implicitDefEqProofs +contextual (maxSteps := 8000000) only [go_sem, ↓reduceIte, zn0, zn1, zn2, zn3, zn4, reduceCtorEq, zn5, zi0, zi1, zi2, zi3, zi4, zn6, zn7, zn8, zn9, encL, encPts, envFB, i_frame_Write, i_frame_Read, i_frame_Salvage, i_cartouchelaw23_lists, i_cartouchelaw23_awake, t0, t14, t11, t13, p0, p1, hi, hwi, hgx, hwr, lk_upd, nxt, Option.some.injEq, forall_eq'])
        refine ⟨by omega, by omega, n - 1, by omega, i + 1, v, v1 + 1 + 1, by simp [lk, t0, encL], by simp [lk], by simp [lk, t11], by simp [lk], by simp [lk_upd, p0], ?_, by omega, by omega⟩
        rw [spo_take hc]; simp [lk_upd]
      · have hst := spo_len quiet l hall
        rw [List.take_of_length_le (by omega)] at p1
        have h9 := g_frame_Salvage_is (spo quiet l ++ quiet)
        obtain ⟨ps2, hsv2, hpb2⟩ := sv_quiet quiet hqne l hall
        have hpl2 : ps2.length = l.length := by rw [← hpb2]; simp
        rw [if_pos (by simp; omega), show spo quiet l ++ quiet = qst quiet l from rfl, hsv2] at h9
        simp only [encSv, encPts] at h9
        rw [show qst quiet l = spo quiet l ++ quiet from rfl, List.map_append] at h9
        have w3 : IntKind.i64.wrap ((l.length : Int) + 1) = ((l.length + 1 : Nat) : Int) := by rw [wrap_i64 (by omega) (by omega)]; omega
        have hmul : (l.length + 1) * quiet.length ≤ 1100001 * 1100000 := Nat.mul_le_mul (by omega) (by omega)
        have w4 : IntKind.i64.wrap (((l.length + 1 : Nat) : Int) * (quiet.length : Int)) = (((l.length + 1) * quiet.length : Nat) : Int) := by rw [← Int.natCast_mul, wrap_i64 (by omega) (by omega)]
        (simp -implicitDefEqProofs +contextual (maxSteps := 8000000) only [go_sem, ↓reduceIte, zn0, zn1, zn2, zn3, zn4, reduceCtorEq, zn5, zi0, zi1, zi2, zi3, zi4, zn6, zn7, zn8, zn9, encL, encPts, envFB, i_frame_Write, i_frame_Read, i_frame_Salvage, i_cartouchelaw23_lists, i_cartouchelaw23_awake, t0, t14, t11, t13, p0, p1, hi, h9, hpl2, w3, w4, lk_upd, nxt, Option.some.injEq, forall_eq'])
        refine ⟨by omega, ?_⟩
        refine vc_loop (FbC l ps2) (l.length + 1) ⟨0, by simp [lk, t0, encL], by simp [lk, encPts], by simp [lk], by omega, by omega⟩ ?_
        clear t0 t14 t11 t13 p0 p1 g1 g2 hi
        rintro n s ⟨i, t0, t17, t19, g1, g2⟩
        simp only [encL, encPts] at t0 t17
        by_cases hi : i < l.length
        · obtain ⟨⟨pa, pb⟩, hp⟩ : ∃ e, ps2[i]? = some e := ⟨ps2[i]'(by omega), by simp [hpl2, hi]⟩
          have hc : l[i]? = some pb := by rw [← hpb2]; simp [hp]
          have hi2 : i < ps2.length := by omega
          have hwi : IntKind.i64.wrap ((i : Int) + 1) = ((i + 1 : Nat) : Int) := by rw [wrap_i64 (by omega) (by omega)]; omega
          have hgx : (l.map encBs)[i]? = some (encBs pb) := by simp [hc]
          have hgp : (ps2.map encPt)[i]? = some (encPt ⟨pa, pb⟩) := by simp [hp]
          simp only [encPt, encBs] at hgx hgp
          (simp -implicitDefEqProofs +contextual (maxSteps := 8000000) only [go_sem, ↓reduceIte, zn0, zn1, zn2, zn3, zn4, reduceCtorEq, zn5, zi0, zi1, zi2, zi3, zi4, zn6, zn7, zn8, zn9, encL, encPts, envFB, i_frame_Write, i_frame_Read, i_frame_Salvage, i_cartouchelaw23_lists, i_cartouchelaw23_awake, t0, t17, t19, hi, hi2, hwi, hgx, hgp, Option.some.injEq, forall_eq'])
          exact ⟨n - 1, by omega, i + 1, by simp [lk, t0, encL], by simp [lk, t17, encPts], by simp [lk], by omega, by omega⟩
        · (simp -implicitDefEqProofs +contextual (maxSteps := 8000000) only [go_sem, ↓reduceIte, zn0, zn1, zn2, zn3, zn4, reduceCtorEq, zn5, zi0, zi1, zi2, zi3, zi4, zn6, zn7, zn8, zn9, encL, encPts, envFB, i_frame_Write, i_frame_Read, i_frame_Salvage, i_cartouchelaw23_lists, i_cartouchelaw23_awake, t0, t17, t19, hi])
def plainF : List TypeId := [5, 22, 23]
theorem plainF_ok : plainSet Try.prog plainF = true := by kernel_rfl
theorem shp_bss {n : Nat} {x : IV} (h : Shp Try.prog n 22 x) : ∃ l : Bss, x = encL l ∧ szW l ≤ 15 * ivBulk x ∧ l.length ≤ ivBulk x := by
  obtain ⟨m, xs, rfl, hx⟩ := shp_slice Try.underlying22 h
  have key : ∀ (xs : List IV), (∀ y ∈ xs, Shp Try.prog m 23 y) → ∃ l : Bss, xs = l.map encBs ∧ szW l ≤ 15 * ivBulks xs ∧ l.length ≤ ivBulks xs := by
    intro xs
    induction xs with
    | nil => exact fun _ => ⟨[], rfl, by simp [szW], by simp⟩
    | cons y ys ih =>
      intro h
      obtain ⟨l, rfl, h1, h2⟩ := ih fun z hz => h z (by simp [hz])
      obtain ⟨b, rfl, h3⟩ := shp_bytes Try.underlying23 Try.underlying5 (h y (by simp))
      refine ⟨b :: l, rfl, ?_, ?_⟩
      · rw [szW_cons]; simp only [ivBulks]; omega
      · simp only [ivBulks, List.length_cons]; omega
  obtain ⟨l, rfl, h1, h2⟩ := key xs hx
  exact ⟨l, rfl, by simp only [ivBulk]; omega, by simp only [ivBulk]; omega⟩
end Go.Proofs.Ytinoaofgbkdohaa.Ag
