/- Names of types that are good -/
import Derived.Test.YtmdkcapbahjipaaDoorTM1
import Derived.Test.YtmdkcapbahjipaaDoorT6Base
set_option linter.unusedVariables false
set_option linter.unusedSimpArgs false
set_option maxRecDepth 100000
set_option maxHeartbeats 4000000
open List renaming map_cons → zl0, map_nil → zl1, zipIdx_cons → zl2, zipIdx_nil → zl3
open Nat renaming reduceEqDiff → zn0, reduceAdd → zn1, reduceSub → zn2, reduceLeDiff → zn3, reduceMul → zn4, reduceBEq → zn5, reducePow → zn6, reduceLT → zn7, reduceDiv → zn8, reduceMod → zn9
open Int renaming reduceLT → zi0, reduceLE → zi1, reduceNeg → zi2, reduceEq → zi3, reduceToNat → zi4
namespace Go.Proofs.YtmdkcapbahjipaaDoor.Ag
attribute [-go_sem] Int.not_lt Int.not_le
theorem lb_count (s : ByteArray) : libBase 100 [.str s, .str ⟨#[46]⟩] = some (.int .i64 (Lib.countByte s.data.toList 46)) := rfl
theorem lb_index (s : ByteArray) : libBase 101 [.str s, .str ⟨#[46]⟩] = some (.int .i64 (Lib.indexByte s.data.toList 46)) := rfl
theorem count_of_none {l : List UInt8} (h : Lib.indexByte l 46 = -1) : l.count 46 = 0 := by
  rw [List.count_eq_zero]
  intro hm
  obtain ⟨k, hk⟩ := List.getElem?_of_mem hm
  exact Lib.indexByte_none h k hk
theorem extract_list (s : ByteArray) (a b : Nat) : (s.extract a b).data.toList = (s.data.toList.drop a).take (b - a) := by rw [extract_mk, mkBA_toList]
theorem part_step {r : ByteArray} {m : Nat} (h : Lib.indexByte r.data.toList 46 = m) :
    parts r = r.extract 0 m :: parts (r.extract (m + 1) r.size) ∧ r.data.toList.count 46 = (r.extract (m + 1) r.size).data.toList.count 46 + 1 ∧ m < r.size := by
  obtain ⟨h1, h2⟩ := Lib.indexByte_some h
  have hlt := (List.getElem?_eq_some_iff.1 h1).1
  have hsz := size_list r
  have e1 : (r.extract (m + 1) r.size).data.toList = r.data.toList.drop (m + 1) := by
    rw [extract_list, List.take_of_length_le (by simp; try omega)]
  have e2 : r.data.toList = r.data.toList.take m ++ 46 :: r.data.toList.drop (m + 1) := by
    rw [← drop_at h1, List.take_append_drop]
  have h0 : (r.data.toList.take m).count 46 = 0 := by
    rw [List.count_eq_zero]
    intro hm
    obtain ⟨k, hk⟩ := List.getElem?_of_mem hm
    rw [List.getElem?_take] at hk
    split at hk
    · rename_i hkm; exact h2 k hkm hk
    · cases hk
  refine ⟨?_, ?_, by omega⟩
  · have : spl r.data.toList = r.data.toList.take m :: spl (r.data.toList.drop (m + 1)) := by
      conv => lhs; rw [e2]
      exact spl_first h0
    rw [parts, this, List.map_cons, parts, e1]
    congr 1
    rw [extract_mk]; simp
  · rw [e1]
    conv => lhs; rw [e2]
    rw [List.count_append, h0, List.count_cons]; simp
theorem part_last {r : ByteArray} (h : r.data.toList.count 46 = 0) : parts r = [r] := by
  rw [parts, spl_none h]; simp [mkBA_data]
theorem parts_len (r : ByteArray) : (parts r).length = r.data.toList.count 46 + 1 := by rw [parts, List.length_map, spl_len]
def envGs : Env := { split := true, fc := [(i_strings_Count, libBase 100), (i_strings_Index, libBase 101)] }
theorem envGs_ok : EnvOk Tryd.prog envGs := (EnvOk.noneS.addF fun xs r h => (libBase_ok 101 xs r h).2).addF fun xs r h => (libBase_ok 100 xs r h).2
def GsI (s : ByteArray) (n : Nat) (st : St) : Prop := ∃ (i v N : Nat) (r : ByteArray) (ys done : List ByteArray), lk st.ρ 0 = some (.iv (.str r)) ∧ lk st.ρ 1 = some (.iv (.str ⟨#[46]⟩)) ∧ lk st.ρ 2 = some (.iv (.int .i64 0)) ∧ lk st.ρ 3 = some (.iv (.int .i64 (N : Int))) ∧ lk st.ρ 9 = some (.lst 0 v) ∧ lk st.ρ 10 = some (.iv (.int .i64 (i : Int))) ∧
  lk st.σ 0 = some (v, .list 9 1 (ys.map .str)) ∧ ys.length = N + 1 ∧ ys.take i = done ∧ parts s = done ++ parts r ∧ r.data.toList.count 46 + i = N ∧ N ≤ 2000000 ∧ r.size ≤ 2000000 ∧ N < i + n
theorem set_str (l : List ByteArray) (i : Nat) (s : ByteArray) : (l.map IV.str).set i (.str s) = (l.set i s).map .str := by rw [List.map_set]
theorem take_set_snoc {α : Type} (p : α) : ∀ {l : List α} {i : Nat}, i < l.length → (l.set i p).take (i + 1) = l.take i ++ [p]
  | [], i, h => by simp at h
  | a :: l, 0, _ => by simp
  | a :: l, i + 1, h => by simp [take_set_snoc p (l := l) (i := i) (by simpa using h)]
theorem genSplit_fc (s : ByteArray) (hs : s.size ≤ 2000000) : FC Tryd.prog i_strings_genSplit [.str s, .str ⟨#[46]⟩, .int .i64 0, .int .i64 (-1)] (· = .slice ((parts s).map .str)) := by
  have hsz := size_list s
  have hc : s.data.toList.count 46 ≤ s.data.toList.length := List.count_le_length
  have hw : IntKind.i64.wrap ((Lib.countByte s.data.toList 46 : Int) + 1) = ((s.data.toList.count 46 + 1 : Nat) : Int) := by
    rw [Lib.countByte, wrap_i64 (by omega) (by omega)]; omega
  have hw2 : IntKind.i64.wrap ((s.size : Int) + 1) = ((s.size + 1 : Nat) : Int) := by rw [wrap_i64 (by omega) (by omega)]; omega
  have hmin : ¬ ((s.size + 1 : Nat) : Int) < ((s.data.toList.count 46 + 1 : Nat) : Int) := by omega
  have hw3 : IntKind.i64.wrap (((s.data.toList.count 46 + 1 : Nat) : Int) - 1) = ((s.data.toList.count 46 : Nat) : Int) := by rw [wrap_i64 (by omega) (by omega)]; omega
  have hcap : ((s.data.toList.count 46 + 1 : Nat) : Int) * 16 ≤ 140737488355328 := by omega
  (refine FC.vc (envGs_ok) F_strings_genSplit T_strings_genSplit L_strings_genSplit ?_; unfold A_strings_genSplit; simp only [args0, zl0, zl1, zl2, zl3, zn1])
  (simp -implicitDefEqProofs +contextual (maxSteps := 8000000) only [go_sem, ↓reduceIte, zn0, zn1, zn2, zn3, zn4, reduceCtorEq, zn5, zi0, zi1, zi2, zi3, zi4, zn6, zn7, zn8, zn9, envGs, i_strings_Count, i_strings_Index, lb_count, lb_index, hw, hw2, hmin, hw3, hcap, Int.le_refl])
  have hseps : ((⟨#[46]⟩ : ByteArray).size : Int) = 1 := rfl
  refine vc_loop (GsI s) (s.data.toList.count 46 + 1) ⟨0, 0, s.data.toList.count 46, s, List.replicate (s.data.toList.count 46 + 1) ⟨#[]⟩, [], by simp [lk], by simp [lk], by simp [lk], by simp [lk], by simp [lk], by simp [lk], by simp [lk, upd], by simp, by simp, by simp, by omega, by omega, by omega, by omega⟩ ?_
  rintro n st ⟨i, v, N, r, ys, done, h0, h1, h2, h3, h9, h10, k0, g1, g2, g3, g4, g5, g6, g7⟩
  have hfl := flat_str ys
  have hos := oneSize_str ys
  have hi1 : i + 1 ≤ N + 1 := by omega
  have hpos : (0 : Int) ≤ (i : Int) := by omega
  obtain ⟨u, hu⟩ : ∃ u, ys[i]? = some u := ⟨ys[i]'(by omega), by rw [List.getElem?_eq_getElem]⟩
  have hwi : IntKind.i64.wrap ((i : Int) + 1) = ((i + 1 : Nat) : Int) := wrap1 (n := N + 1) (by omega) (by omega)
  by_cases hi : i < N
  · have hlt : (i : Int) < (N : Int) := by omega
    have hne : Lib.indexByte r.data.toList 46 ≠ -1 := fun h => by have := count_of_none h; omega
    have hge := Lib.indexByte_ge r.data.toList 46
    obtain ⟨m, hm⟩ : ∃ m : Nat, Lib.indexByte r.data.toList 46 = m := ⟨(Lib.indexByte r.data.toList 46).toNat, by omega⟩
    obtain ⟨p1, p2, p3⟩ := part_step hm
    have hneg : ¬ (m : Int) < 0 := by omega
    have hwa : IntKind.i64.wrap ((m : Int) + 0) = (m : Int) := by rw [wrap_i64 (by omega) (by omega)]; first | rfl | omega
    have hwb : IntKind.i64.wrap ((m : Int) + ((⟨#[46]⟩ : ByteArray).size : Int)) = ((m + 1 : Nat) : Int) := by rw [hseps, wrap_i64 (by omega) (by omega)]; first | rfl | omega
    have hwc : IntKind.i64.wrap ((m : Int) + ((#[46] : Array UInt8).size : Int)) = ((m + 1 : Nat) : Int) := hwb
    have hle : m ≤ r.size := by omega
    have hle1 : m + 1 ≤ r.size := by omega
    (simp -implicitDefEqProofs +contextual (maxSteps := 8000000) only [go_sem, ↓reduceIte, zn0, zn1, zn2, zn3, zn4, reduceCtorEq, zn5, zi0, zi1, zi2, zi3, zi4, zn6, zn7, zn8, zn9, envGs, i_strings_Count, i_strings_Index, lb_index, hm, h0, h1, h2, h3, h9, h10, k0, hi, hlt, hneg, hwa, hwb, hwc, hle, hle1, hfl, hos, hi1, hpos, g1, hu, hwi, List.length_map, List.getElem?_map, Nat.le_refl, List.headD_cons, set_str])
    have hlen2 : (r.extract (m + 1) r.size).size ≤ r.size := by
      have := extract_list r (m + 1) r.size
      have h2 := size_list (r.extract (m + 1) r.size)
      have h3 := size_list r
      rw [this, List.length_take, List.length_drop] at h2
      omega
    exact ⟨n - 1, by omega, i + 1, v, N, r.extract (m + 1) r.size, ys.set i (r.extract 0 m), done ++ [r.extract 0 m], by simp [lk], by simp [lk, h1], by simp [lk, h2], by simp [lk, h3], by simp [lk, h9], by simp [lk], by simp [lk_upd], by simp [g1], by rw [take_set_snoc _ (by omega), g2], by rw [g3, p1]; simp, by omega, by omega, by omega, by omega⟩
  · have hlt : ¬ (i : Int) < (N : Int) := by omega
    obtain rfl : i = N := by omega
    have hin : i + 1 ≤ i + 1 := Nat.le_refl _
    (simp -implicitDefEqProofs +contextual (maxSteps := 8000000) only [go_sem, ↓reduceIte, zn0, zn1, zn2, zn3, zn4, reduceCtorEq, zn5, zi0, zi1, zi2, zi3, zi4, zn6, zn7, zn8, zn9, envGs, i_strings_Count, i_strings_Index, lb_index, h0, h1, h2, h3, h9, h10, k0, hi, hlt, hfl, hos, hi1, hpos, g1, hu, hwi, List.length_map, List.getElem?_map, Nat.le_refl, List.headD_cons, set_str, List.length_set])
    have e1 : (ys.set i r).take (i + 1) = ys.set i r := List.take_of_length_le (by simp; omega)
    rw [take_set_snoc r (by omega), g2] at e1
    refine ⟨oneSize_str _, ?_⟩
    rw [g3, part_last (by omega), e1]
    unfold cut
    rw [List.drop_zero, Nat.sub_zero]
    exact List.take_of_length_le (by simp [g1])
theorem envNo_ok : EnvOk Tryd.prog { split := true } := EnvOk.noneS
def piece (s : ByteArray) (a b : Nat) : List UInt8 := (s.data.toList.drop a).take (b - a)
def PaI (s : ByteArray) (n : Nat) (st : St) : Prop := ∃ (i fr v : Nat) (done : List ByteArray), lk st.ρ 0 = some (.iv (.str s)) ∧ lk st.ρ 3 = some (.lst 0 v) ∧ lk st.ρ 4 = some (.iv (.int .i64 (fr : Int))) ∧ lk st.ρ 5 = some (.iv (.int .i64 (i : Int))) ∧ lk st.σ 0 = some (v, .list 9 1 (done.map .str)) ∧
  i ≤ s.size + 1 ∧ s.size + 1 < i + n ∧ done.length ≤ i ∧ (i ≤ s.size → fr ≤ i ∧ spl s.data.toList = done.map (·.data.toList) ++ hd (piece s fr i) (spl (s.data.toList.drop i))) ∧ (i = s.size + 1 → spl s.data.toList = done.map (·.data.toList))
theorem piece_snoc {s : ByteArray} {fr i : Nat} {c : UInt8} (h : s.data.toList[i]? = some c) (hf : fr ≤ i) : piece s fr (i + 1) = piece s fr i ++ [c] := by
  unfold piece
  rw [show i + 1 - fr = (i - fr) + 1 by omega, List.take_add_one, List.getElem?_drop, show fr + (i - fr) = i by omega, h]; rfl
theorem ref7_parts_fc (s : ByteArray) (hs : s.size ≤ 2000000) : FC Tryd.prog i_cartoucheref7_parts [.str s] (· = .slice ((parts s).map .str)) := by
  have hsz := size_list s
  (refine FC.vc (envNo_ok) F_cartoucheref7_parts T_cartoucheref7_parts L_cartoucheref7_parts ?_; unfold A_cartoucheref7_parts; simp only [args0, zl0, zl1, zl2, zl3, zn1])
  (simp -implicitDefEqProofs +contextual (maxSteps := 8000000) only [go_sem, ↓reduceIte, zn0, zn1, zn2, zn3, zn4, reduceCtorEq, zn5, zi0, zi1, zi2, zi3, zi4, zn6, zn7, zn8, zn9, envNo_ok])
  refine vc_loopN 3 0 9 1 (PaI s) (s.size + 2) (by simp [lk]) ⟨0, 0, 0, [], by simp [lk], by simp [lk, nxt], by simp [lk], by simp [lk], by simp [lk, upd, nxt], by omega, by omega, by simp, fun _ => ⟨by omega, by simp [piece, hd_nil (spl_ne _)]⟩, fun h => by omega⟩ ?_
  rintro n st ⟨i, fr, v, done, h0, h3, h4, h5, k0, g1, g2, g3, g4, g5⟩
  by_cases hi : i ≤ s.size
  · obtain ⟨f1, f2⟩ := g4 hi
    have hw : IntKind.i64.wrap ((i : Int) + 1) = ((i + 1 : Nat) : Int) := by rw [wrap_i64 (by omega) (by omega)]; omega
    have hcap : (done.length + 1) * 16 ≤ 140737488355328 := by omega
    have hex : (s.extract fr i).data.toList = piece s fr i := extract_list s fr i
    by_cases he : i = s.size
    · subst he
      have hd0 : s.data.toList.drop s.size = [] := List.drop_eq_nil_of_le (by omega)
      rw [hd0, spl] at f2
      (simp -implicitDefEqProofs +contextual (maxSteps := 8000000) only [go_sem, ↓reduceIte, zn0, zn1, zn2, zn3, zn4, reduceCtorEq, zn5, zi0, zi1, zi2, zi3, zi4, zn6, zn7, zn8, zn9, h0, h3, h4, h5, k0, hi, hw, hcap, f1, Nat.le_refl, forall_eq'])
      exact ⟨n - 1, by omega, s.size + 1, s.size + 1, v + 1, done ++ [s.extract fr s.size], by simp [lk, h0], by simp [lk], by simp [lk], by simp [lk], by simp [lk_upd], by omega, by omega, by simp; omega, fun h => by omega, fun _ => by rw [f2]; simp [hd, hex, piece]⟩
    · obtain ⟨c, hc⟩ : ∃ c, s.data.toList[i]? = some c := ⟨s.data.toList[i]'(by omega), by rw [List.getElem?_eq_getElem]⟩
      have hlt : (i : Int) < (s.size : Int) := by omega
      have hdr := drop_at hc
      by_cases hdot : c = 46
      · have hc2 : (c.toNat : Int) = 46 := by subst hdot; rfl
        have hc3 : c.toNat = 46 := by subst hdot; rfl
        rw [hdr, hdot, spl_dot] at f2
        (simp -implicitDefEqProofs +contextual (maxSteps := 8000000) only [go_sem, ↓reduceIte, zn0, zn1, zn2, zn3, zn4, reduceCtorEq, zn5, zi0, zi1, zi2, zi3, zi4, zn6, zn7, zn8, zn9, h0, h3, h4, h5, k0, hi, he, hlt, hc, hc2, hc3, hw, hcap, f1, Option.some.injEq, forall_eq'])
        exact ⟨n - 1, by omega, i + 1, i + 1, v + 1, done ++ [s.extract fr i], by simp [lk, h0], by simp [lk], by simp [lk], by simp [lk], by simp [lk_upd], by omega, by omega, by simp; omega, fun _ => ⟨by omega, by rw [f2, show piece s (i + 1) (i + 1) = [] by simp [piece], hd_nil (spl_ne _)]; simp [hd, ← hex]⟩, fun h => by omega⟩
      · have hc2 : ¬ (c.toNat : Int) = 46 := fun h => hdot (UInt8.toNat_inj.1 (by have : (46 : UInt8).toNat = 46 := rfl; omega))
        have hc3 : ¬ c.toNat = 46 := by omega
        rw [hdr, hd_cons hdot, ← piece_snoc hc f1] at f2
        (simp -implicitDefEqProofs +contextual (maxSteps := 8000000) only [go_sem, ↓reduceIte, zn0, zn1, zn2, zn3, zn4, reduceCtorEq, zn5, zi0, zi1, zi2, zi3, zi4, zn6, zn7, zn8, zn9, h0, h3, h4, h5, k0, hi, he, hlt, hc, hc2, hc3, hw, hcap, f1, Option.some.injEq, forall_eq'])
        exact ⟨n - 1, by omega, i + 1, fr, v, done, by simp [lk, h0], by simp [lk, h3], by simp [lk, h4], by simp [lk], by simp [k0], by omega, by omega, by omega, fun _ => ⟨by omega, f2⟩, fun h => by omega⟩
  · obtain rfl : i = s.size + 1 := by omega
    have g6 := g5 rfl
    have hpd : parts s = done := by rw [parts, g6, List.map_map]; simp [Function.comp_def, mkBA_data]
    (simp -implicitDefEqProofs +contextual (maxSteps := 8000000) only [go_sem, ↓reduceIte, zn0, zn1, zn2, zn3, zn4, reduceCtorEq, zn5, zi0, zi1, zi2, zi3, zi4, zn6, zn7, zn8, zn9, h0, h3, h4, h5, k0, hi])
    rw [hpd]
open Classical
noncomputable def g_strings_genSplit : List IV → Option IV
  | [.str s, .str sep, .int .i64 a, .int .i64 b] => if s.size ≤ 2000000 ∧ sep = ⟨#[46]⟩ ∧ a = 0 ∧ b = -1 then some (.slice ((parts s).map .str)) else none
  | _ => none
theorem g_strings_genSplit_is (s : ByteArray) (sep : ByteArray) (a : Int) (b : Int) : g_strings_genSplit [.str s, .str sep, .int .i64 a, .int .i64 b] = if s.size ≤ 2000000 ∧ sep = ⟨#[46]⟩ ∧ a = 0 ∧ b = -1 then some (.slice ((parts s).map .str)) else none := by
  simp only [g_strings_genSplit]
theorem g_strings_genSplit_ok : ∀ xs r, g_strings_genSplit xs = some r → FC Tryd.prog i_strings_genSplit xs (· = r) := by
  intro xs r h
  unfold g_strings_genSplit at h
  split at h
  · rename_i s sep a b
    split at h
    · rename_i hpre
      injection h with h; subst h
      obtain ⟨h1, rfl, rfl, rfl⟩ := hpre
      exact genSplit_fc s h1
    · cases h
  · cases h

noncomputable def g_cartoucheref7_parts : List IV → Option IV
  | [.str s] => if s.size ≤ 2000000 then some (.slice ((parts s).map .str)) else none
  | _ => none
theorem g_cartoucheref7_parts_is (s : ByteArray) : g_cartoucheref7_parts [.str s] = if s.size ≤ 2000000 then some (.slice ((parts s).map .str)) else none := by
  simp only [g_cartoucheref7_parts]
theorem g_cartoucheref7_parts_ok : ∀ xs r, g_cartoucheref7_parts xs = some r → FC Tryd.prog i_cartoucheref7_parts xs (· = r) := by
  intro xs r h
  unfold g_cartoucheref7_parts at h
  split at h
  · rename_i s
    split at h
    · rename_i hpre
      injection h with h; subst h
      exact ref7_parts_fc s hpre
    · cases h
  · cases h

end Go.Proofs.YtmdkcapbahjipaaDoor.Ag
namespace Go.Proofs.YtmdkcapbahjipaaDoor.Ag
noncomputable def envSp : Env := { split := true, fc := [(i_strings_genSplit, g_strings_genSplit)] }
theorem envSp_ok : EnvOk Tryd.prog envSp := EnvOk.noneS.addF g_strings_genSplit_ok
theorem split_fc (s : ByteArray) (hs : s.size ≤ 2000000) : FC Tryd.prog i_strings_Split [.str s, .str ⟨#[46]⟩] (· = .slice ((parts s).map .str)) := by
  have h := g_strings_genSplit_is s ⟨#[46]⟩ 0 (-1)
  rw [if_pos ⟨hs, rfl, rfl, rfl⟩] at h
  (refine FC.vc (envSp_ok) F_strings_Split T_strings_Split L_strings_Split ?_; unfold A_strings_Split; simp only [args0, zl0, zl1, zl2, zl3, zn1])
  (simp -implicitDefEqProofs +contextual (maxSteps := 8000000) only [go_sem, ↓reduceIte, zn0, zn1, zn2, zn3, zn4, reduceCtorEq, zn5, zi0, zi1, zi2, zi3, zi4, zn6, zn7, zn8, zn9, envSp, i_strings_genSplit, h])
open Classical in
noncomputable def g_split : List IV → Option IV
  | [.str s, .str sep] => if s.size ≤ 2000000 ∧ sep = ⟨#[46]⟩ then some (.slice ((parts s).map .str)) else none
  | _ => none
theorem g_split_ok : ∀ xs r, g_split xs = some r → FC Tryd.prog i_strings_Split xs (· = r) := by
  intro xs r h
  unfold g_split at h
  split at h
  · split at h
    · rename_i hp
      obtain ⟨h1, rfl⟩ := hp
      injection h with h; subst h
      exact split_fc _ h1
    · cases h
  · cases h
theorem g_split_is (s : ByteArray) (hs : s.size ≤ 2000000) : g_split [.str s, .str ⟨#[46]⟩] = some (.slice ((parts s).map .str)) := by
  simp only [g_split]
  rw [if_pos (by first | exact ⟨hs, rfl⟩ | exact ⟨hs, trivial⟩ | simpa using hs)]
def g_join : List IV → Option IV
  | [.slice l, .str sep] => match unStrs l with
    | some ss => if ss.length ≤ 140737488355328 ∧ (Lib.join (ss.map (·.data.toList)) sep.data.toList).length ≤ 140737488355328 then some (.str (joinF ss sep)) else none
    | none => none
  | _ => none
theorem g_join_ok : ∀ xs r, g_join xs = some r → FC Tryd.prog i_strings_Join xs (· = r) := by
  intro xs r h
  unfold g_join at h
  split at h
  · split at h
    · rename_i ss hss
      have := unStrs_inv hss; subst this
      split at h
      · rename_i hp
        injection h with h; subst h
        exact join_fc ss _ hp.1 hp.2
      · cases h
    · cases h
  · cases h
theorem unStrs_enc : ∀ (l : List ByteArray), unStrs (l.map .str) = some l
  | [] => rfl
  | s :: l => by simp only [List.map_cons, unStrs, unStrs_enc l]
theorem cut_str (l : List ByteArray) (k : Nat) : cut (l.map IV.str) 0 k = (l.take k).map .str := by simp [cut, List.map_take]
theorem g_join_head (s : ByteArray) (hs : s.size ≤ 2000000) : g_join [.slice (cut ((parts s).map .str) 0 ((parts s).length - 1)), .str ⟨#[46]⟩] = some (.str (headB s)) := by
  have e : (parts s).take ((parts s).length - 1) = (spl s.data.toList).dropLast.map mkBA := by
    rw [← List.dropLast_eq_take, parts, List.map_dropLast]
  have e2 : (((spl s.data.toList).dropLast.map mkBA).map (·.data.toList)) = (spl s.data.toList).dropLast := by
    rw [List.map_map]; simp [Function.comp_def, mkBA_toList]
  have hl : (headL s.data.toList).length ≤ s.data.toList.length := by
    by_cases h1 : (spl s.data.toList).length = 1
    · show (Lib.join (spl s.data.toList).dropLast [46]).length ≤ _
      have : (spl s.data.toList).dropLast = [] := by
        apply List.eq_nil_of_length_eq_zero; simp [h1]
      rw [this]; simp [Lib.join_nil]
    · obtain ⟨y, hy⟩ : ∃ y, (spl s.data.toList).getLast? = some y := by
        cases hh : (spl s.data.toList).getLast? with
        | some y => exact ⟨y, rfl⟩
        | none => rw [List.getLast?_eq_none_iff] at hh; exact absurd hh (spl_ne _)
      obtain ⟨h2, _⟩ := headL_take hy h1
      rw [h2]; simp; omega
  have hc := List.count_le_length (a := (46 : UInt8)) (l := s.data.toList)
  have hsz := size_list s
  have hpl := parts_len s
  have hj : Lib.join (spl s.data.toList).dropLast (⟨#[46]⟩ : ByteArray).data.toList = headL s.data.toList := rfl
  rw [cut_str, e]
  simp only [g_join, unStrs_enc]
  rw [e2, hj, if_pos ⟨by simp; rw [spl_len]; omega, by omega⟩]
  simp only [joinF, headB, mkBA, e2, hj]
def NameR (l : List Ty) (x : Ty) : Prop := (parts x.name).length ≤ (if x.enum then 9 else 8) ∧ (∀ p ∈ parts x.name, nameB p = true) ∧
  ((parts x.name).length = 1 ∨ ∃ y, l.find? (fun y => decide (y.name = headB x.name)) = some y ∧ y.enum = false)
noncomputable def envGn : Env := { split := true, fc := [(i_strings_Split, g_split), (i_strings_Join, g_join), (i_lex_IsName, g_lex_IsName)] }
theorem envGn_ok : EnvOk Tryd.prog envGn := ((EnvOk.noneS.addF g_lex_IsName_ok).addF g_join_ok).addF g_split_ok
def gnσ (σ : Slots) (x : Ty) : Slots := upd σ 95 (nxt σ 95, .box [.iv (.str x.name), .iv (.bool x.enum), .iv (.slice (x.fields.map encFT)), .iv (.slice (x.oneofs.map .str)), .iv (.slice (x.syms.map encSym)), .iv (.slice (x.rsv.map encRng))])
def GnI (t : List Ty) (x : Ty) (k a : Nat) (σ : Slots) (n : Nat) (st : St) : Prop := ∃ i : Nat, lk st.ρ 2 = some (.mp k a) ∧ lk st.ρ 3 = some (.iv (.ref (encTable t))) ∧ lk st.ρ 8 = some (.iv (.slice ((parts x.name).map .str))) ∧ lk st.ρ 30 = some (.iv (.slice ((parts x.name).map .str))) ∧ lk st.ρ 31 = some (.iv (.int .i64 ((parts x.name).length : Int))) ∧ lk st.ρ 32 = some (.iv (.int .i64 (i : Int))) ∧ st.σ = gnσ σ x ∧
  i ≤ (parts x.name).length ∧ (parts x.name).length < i + n ∧ ∀ p ∈ (parts x.name).take i, nameB p = true
theorem mem_snoc' {l : List ByteArray} {s : ByteArray} (h : ∀ n ∈ l, nameB n = true) (hs : nameB s = true) : ∀ n ∈ l ++ (some s).toList, nameB n = true := by
  intro n hn
  rcases List.mem_append.1 hn with hn | hn
  · exact h n hn
  · simp at hn; subst hn; exact hs
theorem spl_size : ∀ {l p : List UInt8}, p ∈ spl l → p.length ≤ l.length
  | [], p, h => by simp [spl] at h; subst h; simp
  | c :: r, p, h => by
    unfold spl at h
    split at h
    · rcases List.mem_cons.1 h with h | h
      · subst h; simp
      · have := spl_size h; simp; omega
    · split at h
      · rename_i a t e
        rcases List.mem_cons.1 h with h | h
        · subst h
          have := spl_size (l := r) (p := a) (by rw [e]; simp)
          simp; omega
        · have := spl_size (l := r) (p := p) (by rw [e]; simp [h])
          simp; omega
      · simp at h; subst h; simp
theorem parts_size {s p : ByteArray} (h : p ∈ parts s) : p.size ≤ s.size := by
  obtain ⟨l, hl, rfl⟩ := List.mem_map.1 h
  have := spl_size hl
  rw [mkBA_size, size_list]; exact this
theorem goodName_gc {σ : Slots} {t : List Ty} {x : Ty} {i k a : Nat} (hk : ¬ 95 = k) (hx : t[i]? = some x) (hs : x.name.size ≤ 2000000) (ht : t.length ≤ 2000000) (h : lk σ k = some (a, .map .str (encAhead (t.take i)))) :
    GC Tryd.prog i_table_goodName [.iv (encTable t), .iv (.int .i64 (i : Int)), .mp k a] σ (fun r σ' => r = .iv (.bool (dec (NameR (t.take i) x))) ∧ σ' = gnσ σ x) := by
  have hil := (List.getElem?_eq_some_iff.1 hx).1
  have hlt : (i : Int) < (t.length : Int) := by omega
  have hm := get_map (f := encTy) hx
  simp only [encTy] at hm
  have hsp := g_split_is x.name hs
  have hpl := parts_len x.name
  have hc := List.count_le_length (a := (46 : UInt8)) (l := x.name.data.toList)
  have hsz := size_list x.name
  refine GC.vc envGn_ok F_table_goodName T_table_goodName L_table_goodName ?_
  unfold A_table_goodName; simp only [args0, zl0, zl1, zl2, zl3, zn1]
  have hw9 : IntKind.i64.wrap (8 + 1) = 9 := by decide
  have hk0 : lk (gnσ σ x) k = some (a, .map .str (encAhead (t.take i))) := by rw [gnσ, lk_upd, if_neg hk, h]
  cases he : x.enum with
  | true =>
    rw [he] at hm
    have hgs : gnσ σ x = upd σ 95 (nxt σ 95, .box [.iv (.str x.name), .iv (.bool true), .iv (.slice (x.fields.map encFT)), .iv (.slice (x.oneofs.map .str)), .iv (.slice (x.syms.map encSym)), .iv (.slice (x.rsv.map encRng))]) := by rw [gnσ, he]
    by_cases c1 : 9 < ((parts x.name).length : Int)
    · (simp -implicitDefEqProofs +contextual (maxSteps := 8000000) only [go_sem, ↓reduceIte, zn0, zn1, zn2, zn3, zn4, reduceCtorEq, zn5, zi0, zi1, zi2, zi3, zi4, zn6, zn7, zn8, zn9, encTable, envGn, i_strings_Split, i_strings_Join, i_lex_IsName, hsp, hil, hlt, hm, h, hk, c1, hw9, upd_upd, forall_eq'])
      exact ⟨(dec_false fun hR => by have := hR.1; simp [he] at this; omega).symm, by rw [hgs]; rfl⟩
    (simp -implicitDefEqProofs +contextual (maxSteps := 8000000) only [go_sem, ↓reduceIte, zn0, zn1, zn2, zn3, zn4, reduceCtorEq, zn5, zi0, zi1, zi2, zi3, zi4, zn6, zn7, zn8, zn9, encTable, envGn, i_strings_Split, i_strings_Join, i_lex_IsName, hsp, hil, hlt, hm, h, hk, c1, hw9, upd_upd, forall_eq'])
    refine vc_loop (GnI t x k a σ) ((parts x.name).length + 1) ⟨0, by simp [lk], by simp [lk, encTable], by simp [lk], by simp [lk], by simp [lk], by simp [lk], by rw [hgs]; rfl, by omega, by omega, by simp⟩ ?_
    have hmost : (parts x.name).length ≤ (if x.enum then 9 else 8) := by rw [he]; simp; omega
    rintro n st ⟨q, h2, h3, h8, h30, h31, h32, hσ, g1, g2, g3⟩
    simp only [encTable] at h3
    by_cases hq : q < (parts x.name).length
    · obtain ⟨p, hp⟩ : ∃ p, (parts x.name)[q]? = some p := ⟨(parts x.name)[q], by simp [hq]⟩
      have hmp := get_map (f := IV.str) hp
      have hw := wrap1 hq (by omega)
      have hlq : (q : Int) < ((parts x.name).length : Int) := by omega
      have hps : p.size ≤ 2000000 := by
        have hpm := List.mem_of_getElem? hp
        exact Nat.le_trans (parts_size hpm) hs
      by_cases d1 : nameB p = true
      · (simp -implicitDefEqProofs +contextual (maxSteps := 8000000) only [go_sem, ↓reduceIte, zn0, zn1, zn2, zn3, zn4, reduceCtorEq, zn5, zi0, zi1, zi2, zi3, zi4, zn6, zn7, zn8, zn9, encTable, envGn, i_strings_Split, i_strings_Join, i_lex_IsName, g_lex_IsName_is, h2, h3, h8, h30, h31, h32, hq, hlq, hmp, hw, hps, d1, forall_eq'])
        exact ⟨n - 1, by omega, q + 1, by simp [lk, h2], by simp [lk, h3, encTable], by simp [lk, h8], by simp [lk, h30], by simp [lk, h31], by simp [lk], hσ, by omega, by omega, by
          rw [List.take_add_one, hp]; exact mem_snoc' g3 d1⟩
      · have d1' : nameB p = false := by simpa using d1
        (simp -implicitDefEqProofs +contextual (maxSteps := 8000000) only [go_sem, ↓reduceIte, zn0, zn1, zn2, zn3, zn4, reduceCtorEq, zn5, zi0, zi1, zi2, zi3, zi4, zn6, zn7, zn8, zn9, encTable, envGn, i_strings_Split, i_strings_Join, i_lex_IsName, g_lex_IsName_is, h2, h3, h8, h30, h31, h32, hq, hlq, hmp, hw, hps, d1', forall_eq'])
        exact ⟨(dec_false fun hR => d1 (hR.2.1 p (List.mem_of_getElem? hp))).symm, hσ⟩
    have hlq : ¬ (q : Int) < ((parts x.name).length : Int) := by omega
    rw [List.take_of_length_le (by omega)] at g3
    by_cases d2 : (parts x.name).length = 1
    · have d2' : ((parts x.name).length : Int) = 1 := by omega
      have hq1 : ¬ (q : Int) < 1 := by omega
      (simp -implicitDefEqProofs +contextual (maxSteps := 8000000) only [go_sem, ↓reduceIte, zn0, zn1, zn2, zn3, zn4, reduceCtorEq, zn5, zi0, zi1, zi2, zi3, zi4, zn6, zn7, zn8, zn9, encTable, envGn, i_strings_Split, i_strings_Join, i_lex_IsName, h2, h3, h8, h30, h31, h32, hq, hlq, hq1, d2, d2'])
      exact ⟨(dec_true ⟨hmost, g3, .inl d2⟩).symm, hσ⟩
    have d2' : ¬ ((parts x.name).length : Int) = 1 := by omega
    have hwl : IntKind.i64.wrap (((parts x.name).length : Int) - 1) = (((parts x.name).length - 1 : Nat) : Int) := by rw [wrap_i64 (by omega) (by omega)]; omega
    have hos := oneSize_str (parts x.name)
    have hjn := g_join_head x.name hs
    have hle2 : (parts x.name).length - 1 ≤ (parts x.name).length := by omega
    cases hf : (t.take i).find? (fun y => decide (y.name = headB x.name)) with
    | none =>
      have hfi := ahead_none hf
      (simp -implicitDefEqProofs +contextual (maxSteps := 8000000) only [go_sem, ↓reduceIte, zn0, zn1, zn2, zn3, zn4, reduceCtorEq, zn5, zi0, zi1, zi2, zi3, zi4, zn6, zn7, zn8, zn9, encTable, envGn, i_strings_Split, i_strings_Join, i_lex_IsName, h2, h3, h8, h30, h31, h32, hq, hlq, d2, d2', hwl, hos, hjn, hle2, hσ, hk0, hfi, Nat.le_refl, List.length_map])
      exact (dec_false fun hR => by
        rcases hR.2.2 with h1 | ⟨y, h1, _⟩
        · exact d2 h1
        · rw [hf] at h1; cases h1).symm
    | some y =>
      obtain ⟨j, u, hfi, hy⟩ := ahead_some hf
      have hjl := (List.getElem?_eq_some_iff.1 hy).1
      rw [List.length_take] at hjl
      rw [List.getElem?_take, if_pos (by omega)] at hy
      have hmy := get_map (f := encTy) hy
      simp only [encTy] at hmy
      have hjlt : (j : Int) < (t.length : Int) := by omega
      have hjlt2 : j < t.length := by omega
      (simp -implicitDefEqProofs +contextual (maxSteps := 8000000) only [go_sem, ↓reduceIte, zn0, zn1, zn2, zn3, zn4, reduceCtorEq, zn5, zi0, zi1, zi2, zi3, zi4, zn6, zn7, zn8, zn9, encTable, envGn, i_strings_Split, i_strings_Join, i_lex_IsName, h2, h3, h8, h30, h31, h32, hq, hlq, d2, d2', hwl, hos, hjn, hle2, hσ, hk0, hfi, hmy, hjlt, hjlt2, Nat.le_refl, List.length_map, forall_eq'])
      apply dec_is
      constructor
      · intro h1
        exact ⟨hmost, g3, .inr ⟨y, hf, by simpa using h1⟩⟩
      · intro hR
        rcases hR.2.2 with h1 | ⟨y', h1, h2⟩
        · exact absurd h1 d2
        · rw [hf] at h1; injection h1 with h1; subst h1; simp [h2]
  | false =>
    rw [he] at hm
    have hgs : gnσ σ x = upd σ 95 (nxt σ 95, .box [.iv (.str x.name), .iv (.bool false), .iv (.slice (x.fields.map encFT)), .iv (.slice (x.oneofs.map .str)), .iv (.slice (x.syms.map encSym)), .iv (.slice (x.rsv.map encRng))]) := by rw [gnσ, he]
    by_cases c1 : 8 < ((parts x.name).length : Int)
    · (simp -implicitDefEqProofs +contextual (maxSteps := 8000000) only [go_sem, ↓reduceIte, zn0, zn1, zn2, zn3, zn4, reduceCtorEq, zn5, zi0, zi1, zi2, zi3, zi4, zn6, zn7, zn8, zn9, encTable, envGn, i_strings_Split, i_strings_Join, i_lex_IsName, hsp, hil, hlt, hm, h, hk, c1, hw9, upd_upd, forall_eq'])
      exact ⟨(dec_false fun hR => by have := hR.1; simp [he] at this; omega).symm, by rw [hgs]; rfl⟩
    (simp -implicitDefEqProofs +contextual (maxSteps := 8000000) only [go_sem, ↓reduceIte, zn0, zn1, zn2, zn3, zn4, reduceCtorEq, zn5, zi0, zi1, zi2, zi3, zi4, zn6, zn7, zn8, zn9, encTable, envGn, i_strings_Split, i_strings_Join, i_lex_IsName, hsp, hil, hlt, hm, h, hk, c1, hw9, upd_upd, forall_eq'])
    refine vc_loop (GnI t x k a σ) ((parts x.name).length + 1) ⟨0, by simp [lk], by simp [lk, encTable], by simp [lk], by simp [lk], by simp [lk], by simp [lk], by rw [hgs]; rfl, by omega, by omega, by simp⟩ ?_
    have hmost : (parts x.name).length ≤ (if x.enum then 9 else 8) := by rw [he]; simp; omega
    rintro n st ⟨q, h2, h3, h8, h30, h31, h32, hσ, g1, g2, g3⟩
    simp only [encTable] at h3
    by_cases hq : q < (parts x.name).length
    · obtain ⟨p, hp⟩ : ∃ p, (parts x.name)[q]? = some p := ⟨(parts x.name)[q], by simp [hq]⟩
      have hmp := get_map (f := IV.str) hp
      have hw := wrap1 hq (by omega)
      have hlq : (q : Int) < ((parts x.name).length : Int) := by omega
      have hps : p.size ≤ 2000000 := by
        have hpm := List.mem_of_getElem? hp
        exact Nat.le_trans (parts_size hpm) hs
      by_cases d1 : nameB p = true
      · (simp -implicitDefEqProofs +contextual (maxSteps := 8000000) only [go_sem, ↓reduceIte, zn0, zn1, zn2, zn3, zn4, reduceCtorEq, zn5, zi0, zi1, zi2, zi3, zi4, zn6, zn7, zn8, zn9, encTable, envGn, i_strings_Split, i_strings_Join, i_lex_IsName, g_lex_IsName_is, h2, h3, h8, h30, h31, h32, hq, hlq, hmp, hw, hps, d1, forall_eq'])
        exact ⟨n - 1, by omega, q + 1, by simp [lk, h2], by simp [lk, h3, encTable], by simp [lk, h8], by simp [lk, h30], by simp [lk, h31], by simp [lk], hσ, by omega, by omega, by
          rw [List.take_add_one, hp]; exact mem_snoc' g3 d1⟩
      · have d1' : nameB p = false := by simpa using d1
        (simp -implicitDefEqProofs +contextual (maxSteps := 8000000) only [go_sem, ↓reduceIte, zn0, zn1, zn2, zn3, zn4, reduceCtorEq, zn5, zi0, zi1, zi2, zi3, zi4, zn6, zn7, zn8, zn9, encTable, envGn, i_strings_Split, i_strings_Join, i_lex_IsName, g_lex_IsName_is, h2, h3, h8, h30, h31, h32, hq, hlq, hmp, hw, hps, d1', forall_eq'])
        exact ⟨(dec_false fun hR => d1 (hR.2.1 p (List.mem_of_getElem? hp))).symm, hσ⟩
    have hlq : ¬ (q : Int) < ((parts x.name).length : Int) := by omega
    rw [List.take_of_length_le (by omega)] at g3
    by_cases d2 : (parts x.name).length = 1
    · have d2' : ((parts x.name).length : Int) = 1 := by omega
      have hq1 : ¬ (q : Int) < 1 := by omega
      (simp -implicitDefEqProofs +contextual (maxSteps := 8000000) only [go_sem, ↓reduceIte, zn0, zn1, zn2, zn3, zn4, reduceCtorEq, zn5, zi0, zi1, zi2, zi3, zi4, zn6, zn7, zn8, zn9, encTable, envGn, i_strings_Split, i_strings_Join, i_lex_IsName, h2, h3, h8, h30, h31, h32, hq, hlq, hq1, d2, d2'])
      exact ⟨(dec_true ⟨hmost, g3, .inl d2⟩).symm, hσ⟩
    have d2' : ¬ ((parts x.name).length : Int) = 1 := by omega
    have hwl : IntKind.i64.wrap (((parts x.name).length : Int) - 1) = (((parts x.name).length - 1 : Nat) : Int) := by rw [wrap_i64 (by omega) (by omega)]; omega
    have hos := oneSize_str (parts x.name)
    have hjn := g_join_head x.name hs
    have hle2 : (parts x.name).length - 1 ≤ (parts x.name).length := by omega
    cases hf : (t.take i).find? (fun y => decide (y.name = headB x.name)) with
    | none =>
      have hfi := ahead_none hf
      (simp -implicitDefEqProofs +contextual (maxSteps := 8000000) only [go_sem, ↓reduceIte, zn0, zn1, zn2, zn3, zn4, reduceCtorEq, zn5, zi0, zi1, zi2, zi3, zi4, zn6, zn7, zn8, zn9, encTable, envGn, i_strings_Split, i_strings_Join, i_lex_IsName, h2, h3, h8, h30, h31, h32, hq, hlq, d2, d2', hwl, hos, hjn, hle2, hσ, hk0, hfi, Nat.le_refl, List.length_map])
      exact (dec_false fun hR => by
        rcases hR.2.2 with h1 | ⟨y, h1, _⟩
        · exact d2 h1
        · rw [hf] at h1; cases h1).symm
    | some y =>
      obtain ⟨j, u, hfi, hy⟩ := ahead_some hf
      have hjl := (List.getElem?_eq_some_iff.1 hy).1
      rw [List.length_take] at hjl
      rw [List.getElem?_take, if_pos (by omega)] at hy
      have hmy := get_map (f := encTy) hy
      simp only [encTy] at hmy
      have hjlt : (j : Int) < (t.length : Int) := by omega
      have hjlt2 : j < t.length := by omega
      (simp -implicitDefEqProofs +contextual (maxSteps := 8000000) only [go_sem, ↓reduceIte, zn0, zn1, zn2, zn3, zn4, reduceCtorEq, zn5, zi0, zi1, zi2, zi3, zi4, zn6, zn7, zn8, zn9, encTable, envGn, i_strings_Split, i_strings_Join, i_lex_IsName, h2, h3, h8, h30, h31, h32, hq, hlq, d2, d2', hwl, hos, hjn, hle2, hσ, hk0, hfi, hmy, hjlt, hjlt2, Nat.le_refl, List.length_map, forall_eq'])
      apply dec_is
      constructor
      · intro h1
        exact ⟨hmost, g3, .inr ⟨y, hf, by simpa using h1⟩⟩
      · intro hR
        rcases hR.2.2 with h1 | ⟨y', h1, h2⟩
        · exact absurd h1 d2
        · rw [hf] at h1; injection h1 with h1; subst h1; simp [h2]
end Go.Proofs.YtmdkcapbahjipaaDoor.Ag
namespace Go.Proofs.YtmdkcapbahjipaaDoor.Ag
noncomputable def envRn : Env := { split := true, fc := [(i_cartoucheref7_parts, g_cartoucheref7_parts), (i_cartoucheref4_IsName, g_cartoucheref4_IsName)] }
theorem envRn_ok : EnvOk Tryd.prog envRn := (EnvOk.noneS.addF g_cartoucheref4_IsName_ok).addF g_cartoucheref7_parts_ok
def tyBox (x : Ty) : Item := .box [.iv (.str x.name), .iv (.bool x.enum), .iv (.slice (x.fields.map encFT)), .iv (.slice (x.oneofs.map .str)), .iv (.slice (x.syms.map encSym)), .iv (.slice (x.rsv.map encRng))]
structure RnB (t : List Ty) (x : Ty) (i v : Nat) (st : St) : Prop where
  h1 : lk st.ρ 1 = some (.iv (.int .i64 (i : Int)))
  h2 : lk st.ρ 2 = some (.iv (.ref (encTable t)))
  h5 : lk st.ρ 5 = some (.loc 0 v 0)
  k0 : lk st.σ 0 = some (v, tyBox x)
def RnA (t : List Ty) (x : Ty) (i : Nat) (n : Nat) (st : St) : Prop := ∃ j v : Nat, RnB t x i v st ∧ lk st.ρ 6 = some (.iv (.int .i64 (j : Int))) ∧ j ≤ i ∧ i < j + n ∧ ∀ y ∈ t.take j, y.name ≠ x.name
def RnP (t : List Ty) (x : Ty) (i : Nat) (n : Nat) (st : St) : Prop := ∃ j v : Nat, RnB t x i v st ∧ lk st.ρ 7 = some (.iv (.slice ((parts x.name).map .str))) ∧ lk st.ρ 9 = some (.iv (.int .i64 (j : Int))) ∧ j ≤ (parts x.name).length ∧ (parts x.name).length < j + n ∧ ∀ p ∈ (parts x.name).take j, nameB p = true
def RnH (t : List Ty) (x : Ty) (i : Nat) (n : Nat) (st : St) : Prop := ∃ j : Nat, lk st.ρ 1 = some (.iv (.int .i64 (i : Int))) ∧ lk st.ρ 2 = some (.iv (.ref (encTable t))) ∧ lk st.ρ 10 = some (.iv (.str (headB x.name))) ∧ lk st.ρ 11 = some (.iv (.int .i64 (j : Int))) ∧ j ≤ i ∧ i < j + n ∧ ∀ y ∈ t.take j, y.name ≠ headB x.name
theorem mem_take_snoc {t : List Ty} {j : Nat} {y : Ty} {P : Ty → Prop} (h : ∀ z ∈ t.take j, P z) (hy : t[j]? = some y) (hp : P y) : ∀ z ∈ t.take (j + 1), P z := by
  rw [List.take_add_one, hy]
  intro z hz
  rcases List.mem_append.1 hz with hz | hz
  · exact h z hz
  · simp at hz; subst hz; exact hp
theorem find_first {l : List Ty} {h : ByteArray} {j : Nat} {y : Ty} (hb : ∀ z ∈ l.take j, z.name ≠ h) (hy : l[j]? = some y) (he : y.name = h) : l.find? (fun z => decide (z.name = h)) = some y := by
  have e : l = l.take j ++ y :: l.drop (j + 1) := by rw [← drop_at hy, List.take_append_drop]
  rw [e, List.find?_append, find_none.2 hb, List.find?_cons]
  simp [he]
theorem last_part {s : ByteArray} (h1 : (parts s).length ≠ 1) : ∃ y, (parts s)[(parts s).length - 1]? = some y ∧ y.size + 1 ≤ s.size ∧ s.extract 0 (s.size - y.size - 1) = headB s := by
  obtain ⟨l, hl⟩ : ∃ y, (spl s.data.toList).getLast? = some y := by
    cases hh : (spl s.data.toList).getLast? with
    | some y => exact ⟨y, rfl⟩
    | none => rw [List.getLast?_eq_none_iff] at hh; exact absurd hh (spl_ne _)
  have h2 : (spl s.data.toList).length ≠ 1 := by rw [parts, List.length_map] at h1; exact h1
  obtain ⟨h3, h4⟩ := headL_take hl h2
  have hsz := size_list s
  refine ⟨mkBA l, ?_, by rw [mkBA_size]; omega, ?_⟩
  · rw [parts, List.length_map, List.getElem?_map]
    rw [List.getLast?_eq_getElem?] at hl
    rw [hl]; rfl
  · rw [extract_mk, headB, h3, mkBA_size, List.drop_zero, Nat.sub_zero, hsz]
theorem ref7_named_fc (t : List Ty) (x : Ty) (i : Nat) (hx : t[i]? = some x) (hs : x.name.size ≤ 2000000) (ht : t.length ≤ 2000000) : FC Tryd.prog i_cartoucheref7_named [encTable t, .int .i64 (i : Int)] (· = .bool (dec (NameOk (t.take i) x))) := by
  have hil := (List.getElem?_eq_some_iff.1 hx).1
  have hlt : (i : Int) < (t.length : Int) := by omega
  have hm := get_map (f := encTy) hx
  simp only [encTy] at hm
  have hpt := g_cartoucheref7_parts_is x.name
  rw [if_pos hs] at hpt
  have hpl := parts_len x.name
  have hc := List.count_le_length (a := (46 : UInt8)) (l := x.name.data.toList)
  have hsz := size_list x.name
  (refine FC.vc (envRn_ok) F_cartoucheref7_named T_cartoucheref7_named L_cartoucheref7_named ?_; unfold A_cartoucheref7_named; simp only [args0, zl0, zl1, zl2, zl3, zn1])
  (simp -implicitDefEqProofs +contextual (maxSteps := 8000000) only [go_sem, ↓reduceIte, zn0, zn1, zn2, zn3, zn4, reduceCtorEq, zn5, zi0, zi1, zi2, zi3, zi4, zn6, zn7, zn8, zn9, encTable, envRn, i_cartoucheref7_parts, i_cartoucheref4_IsName, hil, hlt, hm, forall_eq'])
  refine vc_loop (RnA t x i) (i + 1) ⟨0, 0, ⟨by simp [lk], by simp [lk, encTable], by simp [lk], by simp [upd, lk, tyBox]⟩, by simp [lk], by omega, by omega, by simp⟩ ?_
  rintro n st ⟨j, v, ⟨h1, h2, h5, k0⟩, h6, g1, g2, g3⟩
  simp only [encTable] at h2
  simp only [tyBox] at k0
  by_cases hj : j < i
  · obtain ⟨y, hy⟩ : ∃ y, t[j]? = some y := ⟨t[j]'(by omega), by rw [List.getElem?_eq_getElem]⟩
    have hmy := get_map (f := encTy) hy
    simp only [encTy] at hmy
    have hw := wrap1 hj (by omega)
    have hlj : (j : Int) < (i : Int) := by omega
    have hlt2 : (j : Int) < (t.length : Int) := by omega
    have hlt3 : j < t.length := by omega
    by_cases e1 : y.name = x.name
    · (simp -implicitDefEqProofs +contextual (maxSteps := 8000000) only [go_sem, ↓reduceIte, zn0, zn1, zn2, zn3, zn4, reduceCtorEq, zn5, zi0, zi1, zi2, zi3, zi4, zn6, zn7, zn8, zn9, encTable, envRn, h1, h2, h5, h6, k0, hj, hlj, hlt2, hlt3, hmy, hw, e1, forall_eq'])
      exact (dec_false fun hN => hN.1 y (List.mem_of_getElem? (by rw [List.getElem?_take, if_pos hj]; exact hy)) e1).symm
    · (simp -implicitDefEqProofs +contextual (maxSteps := 8000000) only [go_sem, ↓reduceIte, zn0, zn1, zn2, zn3, zn4, reduceCtorEq, zn5, zi0, zi1, zi2, zi3, zi4, zn6, zn7, zn8, zn9, encTable, envRn, h1, h2, h5, h6, k0, hj, hlj, hlt2, hlt3, hmy, hw, e1, forall_eq'])
      exact ⟨n - 1, by omega, j + 1, v, ⟨by simp [lk, h1], by simp [lk, h2, encTable], by simp [lk, h5], by simp [k0, tyBox]⟩, by simp [lk], by omega, by omega, mem_take_snoc g3 hy e1⟩
  obtain rfl : j = i := by omega
  have hlj : ¬ (j : Int) < (j : Int) := by omega
  cases he : x.enum with
  | true =>
    rw [he] at hm k0
    have het : tyBox x = .box [.iv (.str x.name), .iv (.bool true), .iv (.slice (x.fields.map encFT)), .iv (.slice (x.oneofs.map .str)), .iv (.slice (x.syms.map encSym)), .iv (.slice (x.rsv.map encRng))] := by rw [tyBox, he]
    by_cases c1 : 9 < ((parts x.name).length : Int)
    · (simp -implicitDefEqProofs +contextual (maxSteps := 8000000) only [go_sem, ↓reduceIte, zn0, zn1, zn2, zn3, zn4, reduceCtorEq, zn5, zi0, zi1, zi2, zi3, zi4, zn6, zn7, zn8, zn9, encTable, envRn, i_cartoucheref7_parts, hpt, h1, h2, h5, h6, k0, hj, hlj, hil, hlt, c1, forall_eq'])
      exact (dec_false fun hN => by have := hN.2.1; simp [he] at this; omega).symm
    (simp -implicitDefEqProofs +contextual (maxSteps := 8000000) only [go_sem, ↓reduceIte, zn0, zn1, zn2, zn3, zn4, reduceCtorEq, zn5, zi0, zi1, zi2, zi3, zi4, zn6, zn7, zn8, zn9, encTable, envRn, i_cartoucheref7_parts, hpt, h1, h2, h5, h6, k0, hj, hlj, hil, hlt, c1, forall_eq'])
    refine vc_loop (RnP t x j) ((parts x.name).length + 1) ⟨0, v, ⟨by simp [lk, h1], by simp [lk, h2, encTable], by simp [lk, h5], by rw [het]; simp [k0]⟩, by simp [lk], by simp [lk], by omega, by omega, by simp⟩ ?_
    have hmost : (parts x.name).length ≤ (if x.enum then 9 else 8) := by rw [he]; simp; omega
    clear h1 h2 h5 h6 k0 g1 g2
    rintro n st ⟨q, v, ⟨h1, h2, h5, k0⟩, h7, h9, g1, g2, g4⟩
    simp only [encTable] at h2
    rw [het] at k0
    by_cases hq : q < (parts x.name).length
    · obtain ⟨p, hp⟩ : ∃ p, (parts x.name)[q]? = some p := ⟨(parts x.name)[q], by simp [hq]⟩
      have hmp := get_map (f := IV.str) hp
      have hw := wrap1 hq (by omega)
      have hlq : (q : Int) < ((parts x.name).length : Int) := by omega
      have hps : p.size ≤ 2000000 := Nat.le_trans (parts_size (List.mem_of_getElem? hp)) hs
      by_cases d1 : nameB p = true
      · (simp -implicitDefEqProofs +contextual (maxSteps := 8000000) only [go_sem, ↓reduceIte, zn0, zn1, zn2, zn3, zn4, reduceCtorEq, zn5, zi0, zi1, zi2, zi3, zi4, zn6, zn7, zn8, zn9, encTable, envRn, i_cartoucheref7_parts, i_cartoucheref4_IsName, g_cartoucheref4_IsName_is, h1, h2, h5, h7, h9, k0, hq, hlq, hmp, hw, hps, d1, forall_eq'])
        exact ⟨n - 1, by omega, q + 1, v, ⟨by simp [lk, h1], by simp [lk, h2, encTable], by simp [lk, h5], by rw [het]; simp [k0]⟩, by simp [lk, h7], by simp [lk], by omega, by omega, by
          rw [List.take_add_one, hp]; exact mem_snoc' g4 d1⟩
      · have d1' : nameB p = false := by simpa using d1
        (simp -implicitDefEqProofs +contextual (maxSteps := 8000000) only [go_sem, ↓reduceIte, zn0, zn1, zn2, zn3, zn4, reduceCtorEq, zn5, zi0, zi1, zi2, zi3, zi4, zn6, zn7, zn8, zn9, encTable, envRn, i_cartoucheref7_parts, i_cartoucheref4_IsName, g_cartoucheref4_IsName_is, h1, h2, h5, h7, h9, k0, hq, hlq, hmp, hw, hps, d1', forall_eq'])
        exact (dec_false fun hN => d1 (hN.2.2.1 p (List.mem_of_getElem? hp))).symm
    have hlq : ¬ (q : Int) < ((parts x.name).length : Int) := by omega
    rw [List.take_of_length_le (by omega)] at g4
    by_cases d2 : (parts x.name).length = 1
    · have d2' : ((parts x.name).length : Int) = 1 := by omega
      have hq1 : ¬ (q : Int) < 1 := by omega
      (simp -implicitDefEqProofs +contextual (maxSteps := 8000000) only [go_sem, ↓reduceIte, zn0, zn1, zn2, zn3, zn4, reduceCtorEq, zn5, zi0, zi1, zi2, zi3, zi4, zn6, zn7, zn8, zn9, encTable, envRn, i_cartoucheref7_parts, h1, h2, h5, h7, h9, k0, hq, hlq, hq1, d2, d2'])
      exact (dec_true ⟨g3, hmost, g4, .inl d2⟩).symm
    have d2' : ¬ ((parts x.name).length : Int) = 1 := by omega
    obtain ⟨y, hy, hy2, hy3⟩ := last_part d2
    have hmy := get_map (f := IV.str) hy
    have hwl : IntKind.i64.wrap (((parts x.name).length : Int) - 1) = (((parts x.name).length - 1 : Nat) : Int) := by rw [wrap_i64 (by omega) (by omega)]; omega
    have hll : ((parts x.name).length - 1) < (parts x.name).length := by omega
    have hll2 : (((parts x.name).length - 1 : Nat) : Int) < ((parts x.name).length : Int) := by omega
    have hw2 : IntKind.i64.wrap ((x.name.size : Int) - (y.size : Int)) = ((x.name.size - y.size : Nat) : Int) := by rw [wrap_i64 (by omega) (by omega)]; omega
    have hw3 : IntKind.i64.wrap (((x.name.size - y.size : Nat) : Int) - 1) = ((x.name.size - y.size - 1 : Nat) : Int) := by rw [wrap_i64 (by omega) (by omega)]; omega
    have hle3 : x.name.size - y.size - 1 ≤ x.name.size := by omega
    have tail : NameOk (t.take j) x ↔ ∃ y, (t.take j).find? (fun y => decide (y.name = headB x.name)) = some y ∧ y.enum = false := by
      constructor
      · intro hN
        rcases hN.2.2.2 with h | h
        · exact absurd h d2
        · exact h
      · exact fun h => ⟨g3, hmost, g4, .inr h⟩
    (simp -implicitDefEqProofs +contextual (maxSteps := 8000000) only [go_sem, ↓reduceIte, zn0, zn1, zn2, zn3, zn4, reduceCtorEq, zn5, zi0, zi1, zi2, zi3, zi4, zn6, zn7, zn8, zn9, encTable, envRn, i_cartoucheref7_parts, h1, h2, h5, h7, h9, k0, hq, hlq, d2, d2', hwl, hll, hll2, hmy, hw2, hw3, hle3, hy3, Nat.le_refl, List.length_map, forall_eq'])
    refine vc_loop (RnH t x j) (j + 1) ⟨0, by simp [lk, h1], by simp [lk, h2, encTable], by simp [lk], by simp [lk], by omega, by omega, by simp⟩ ?_
    clear h1 h2 h5 h7 h9 k0 g1 g2 hq hlq
    rintro n st ⟨u, h1, h2, h10, h11, g1, g2, g5⟩
    simp only [encTable] at h2
    by_cases hu : u < j
    · obtain ⟨z, hz⟩ : ∃ z, t[u]? = some z := ⟨t[u]'(by omega), by rw [List.getElem?_eq_getElem]⟩
      have hmz := get_map (f := encTy) hz
      simp only [encTy] at hmz
      have hw := wrap1 hu (by omega)
      have hlu : (u : Int) < (j : Int) := by omega
      have hlt2 : (u : Int) < (t.length : Int) := by omega
      have hlt3 : u < t.length := by omega
      by_cases e1 : z.name = headB x.name
      · have hf := find_first (l := t.take j) (j := u) (y := z) (by rw [List.take_take, Nat.min_eq_left (by omega)]; exact g5) (by rw [List.getElem?_take, if_pos hu]; exact hz) e1
        (simp -implicitDefEqProofs +contextual (maxSteps := 8000000) only [go_sem, ↓reduceIte, zn0, zn1, zn2, zn3, zn4, reduceCtorEq, zn5, zi0, zi1, zi2, zi3, zi4, zn6, zn7, zn8, zn9, encTable, envRn, h1, h2, h10, h11, hu, hlu, hlt2, hlt3, hmz, hw, e1, forall_eq'])
        apply dec_is
        rw [tail]
        constructor
        · intro h; exact ⟨z, hf, by simpa using h⟩
        · rintro ⟨z', h, h'⟩; rw [hf] at h; injection h with h; subst h; simp [h']
      · (simp -implicitDefEqProofs +contextual (maxSteps := 8000000) only [go_sem, ↓reduceIte, zn0, zn1, zn2, zn3, zn4, reduceCtorEq, zn5, zi0, zi1, zi2, zi3, zi4, zn6, zn7, zn8, zn9, encTable, envRn, h1, h2, h10, h11, hu, hlu, hlt2, hlt3, hmz, hw, e1, forall_eq'])
        exact ⟨n - 1, by omega, u + 1, by simp [lk, h1], by simp [lk, h2, encTable], by simp [lk, h10], by simp [lk], by omega, by omega, mem_take_snoc g5 hz e1⟩
    obtain rfl : u = j := by omega
    have hlu : ¬ (u : Int) < (u : Int) := by omega
    (simp -implicitDefEqProofs +contextual (maxSteps := 8000000) only [go_sem, ↓reduceIte, zn0, zn1, zn2, zn3, zn4, reduceCtorEq, zn5, zi0, zi1, zi2, zi3, zi4, zn6, zn7, zn8, zn9, encTable, envRn, h1, h2, h10, h11, hu, hlu])
    exact (dec_false fun hN => by
      obtain ⟨z, h, _⟩ := tail.1 hN
      rw [find_none.2 g5] at h; cases h).symm
  | false =>
    rw [he] at hm k0
    have het : tyBox x = .box [.iv (.str x.name), .iv (.bool false), .iv (.slice (x.fields.map encFT)), .iv (.slice (x.oneofs.map .str)), .iv (.slice (x.syms.map encSym)), .iv (.slice (x.rsv.map encRng))] := by rw [tyBox, he]
    by_cases c1 : 8 < ((parts x.name).length : Int)
    · (simp -implicitDefEqProofs +contextual (maxSteps := 8000000) only [go_sem, ↓reduceIte, zn0, zn1, zn2, zn3, zn4, reduceCtorEq, zn5, zi0, zi1, zi2, zi3, zi4, zn6, zn7, zn8, zn9, encTable, envRn, i_cartoucheref7_parts, hpt, h1, h2, h5, h6, k0, hj, hlj, hil, hlt, c1, forall_eq'])
      exact (dec_false fun hN => by have := hN.2.1; simp [he] at this; omega).symm
    (simp -implicitDefEqProofs +contextual (maxSteps := 8000000) only [go_sem, ↓reduceIte, zn0, zn1, zn2, zn3, zn4, reduceCtorEq, zn5, zi0, zi1, zi2, zi3, zi4, zn6, zn7, zn8, zn9, encTable, envRn, i_cartoucheref7_parts, hpt, h1, h2, h5, h6, k0, hj, hlj, hil, hlt, c1, forall_eq'])
    refine vc_loop (RnP t x j) ((parts x.name).length + 1) ⟨0, v, ⟨by simp [lk, h1], by simp [lk, h2, encTable], by simp [lk, h5], by rw [het]; simp [k0]⟩, by simp [lk], by simp [lk], by omega, by omega, by simp⟩ ?_
    have hmost : (parts x.name).length ≤ (if x.enum then 9 else 8) := by rw [he]; simp; omega
    clear h1 h2 h5 h6 k0 g1 g2
    rintro n st ⟨q, v, ⟨h1, h2, h5, k0⟩, h7, h9, g1, g2, g4⟩
    simp only [encTable] at h2
    rw [het] at k0
    by_cases hq : q < (parts x.name).length
    · obtain ⟨p, hp⟩ : ∃ p, (parts x.name)[q]? = some p := ⟨(parts x.name)[q], by simp [hq]⟩
      have hmp := get_map (f := IV.str) hp
      have hw := wrap1 hq (by omega)
      have hlq : (q : Int) < ((parts x.name).length : Int) := by omega
      have hps : p.size ≤ 2000000 := Nat.le_trans (parts_size (List.mem_of_getElem? hp)) hs
      by_cases d1 : nameB p = true
      · (simp -implicitDefEqProofs +contextual (maxSteps := 8000000) only [go_sem, ↓reduceIte, zn0, zn1, zn2, zn3, zn4, reduceCtorEq, zn5, zi0, zi1, zi2, zi3, zi4, zn6, zn7, zn8, zn9, encTable, envRn, i_cartoucheref7_parts, i_cartoucheref4_IsName, g_cartoucheref4_IsName_is, h1, h2, h5, h7, h9, k0, hq, hlq, hmp, hw, hps, d1, forall_eq'])
        exact ⟨n - 1, by omega, q + 1, v, ⟨by simp [lk, h1], by simp [lk, h2, encTable], by simp [lk, h5], by rw [het]; simp [k0]⟩, by simp [lk, h7], by simp [lk], by omega, by omega, by
          rw [List.take_add_one, hp]; exact mem_snoc' g4 d1⟩
      · have d1' : nameB p = false := by simpa using d1
        (simp -implicitDefEqProofs +contextual (maxSteps := 8000000) only [go_sem, ↓reduceIte, zn0, zn1, zn2, zn3, zn4, reduceCtorEq, zn5, zi0, zi1, zi2, zi3, zi4, zn6, zn7, zn8, zn9, encTable, envRn, i_cartoucheref7_parts, i_cartoucheref4_IsName, g_cartoucheref4_IsName_is, h1, h2, h5, h7, h9, k0, hq, hlq, hmp, hw, hps, d1', forall_eq'])
        exact (dec_false fun hN => d1 (hN.2.2.1 p (List.mem_of_getElem? hp))).symm
    have hlq : ¬ (q : Int) < ((parts x.name).length : Int) := by omega
    rw [List.take_of_length_le (by omega)] at g4
    by_cases d2 : (parts x.name).length = 1
    · have d2' : ((parts x.name).length : Int) = 1 := by omega
      have hq1 : ¬ (q : Int) < 1 := by omega
      (simp -implicitDefEqProofs +contextual (maxSteps := 8000000) only [go_sem, ↓reduceIte, zn0, zn1, zn2, zn3, zn4, reduceCtorEq, zn5, zi0, zi1, zi2, zi3, zi4, zn6, zn7, zn8, zn9, encTable, envRn, i_cartoucheref7_parts, h1, h2, h5, h7, h9, k0, hq, hlq, hq1, d2, d2'])
      exact (dec_true ⟨g3, hmost, g4, .inl d2⟩).symm
    have d2' : ¬ ((parts x.name).length : Int) = 1 := by omega
    obtain ⟨y, hy, hy2, hy3⟩ := last_part d2
    have hmy := get_map (f := IV.str) hy
    have hwl : IntKind.i64.wrap (((parts x.name).length : Int) - 1) = (((parts x.name).length - 1 : Nat) : Int) := by rw [wrap_i64 (by omega) (by omega)]; omega
    have hll : ((parts x.name).length - 1) < (parts x.name).length := by omega
    have hll2 : (((parts x.name).length - 1 : Nat) : Int) < ((parts x.name).length : Int) := by omega
    have hw2 : IntKind.i64.wrap ((x.name.size : Int) - (y.size : Int)) = ((x.name.size - y.size : Nat) : Int) := by rw [wrap_i64 (by omega) (by omega)]; omega
    have hw3 : IntKind.i64.wrap (((x.name.size - y.size : Nat) : Int) - 1) = ((x.name.size - y.size - 1 : Nat) : Int) := by rw [wrap_i64 (by omega) (by omega)]; omega
    have hle3 : x.name.size - y.size - 1 ≤ x.name.size := by omega
    have tail : NameOk (t.take j) x ↔ ∃ y, (t.take j).find? (fun y => decide (y.name = headB x.name)) = some y ∧ y.enum = false := by
      constructor
      · intro hN
        rcases hN.2.2.2 with h | h
        · exact absurd h d2
        · exact h
      · exact fun h => ⟨g3, hmost, g4, .inr h⟩
    (simp -implicitDefEqProofs +contextual (maxSteps := 8000000) only [go_sem, ↓reduceIte, zn0, zn1, zn2, zn3, zn4, reduceCtorEq, zn5, zi0, zi1, zi2, zi3, zi4, zn6, zn7, zn8, zn9, encTable, envRn, i_cartoucheref7_parts, h1, h2, h5, h7, h9, k0, hq, hlq, d2, d2', hwl, hll, hll2, hmy, hw2, hw3, hle3, hy3, Nat.le_refl, List.length_map, forall_eq'])
    refine vc_loop (RnH t x j) (j + 1) ⟨0, by simp [lk, h1], by simp [lk, h2, encTable], by simp [lk], by simp [lk], by omega, by omega, by simp⟩ ?_
    clear h1 h2 h5 h7 h9 k0 g1 g2 hq hlq
    rintro n st ⟨u, h1, h2, h10, h11, g1, g2, g5⟩
    simp only [encTable] at h2
    by_cases hu : u < j
    · obtain ⟨z, hz⟩ : ∃ z, t[u]? = some z := ⟨t[u]'(by omega), by rw [List.getElem?_eq_getElem]⟩
      have hmz := get_map (f := encTy) hz
      simp only [encTy] at hmz
      have hw := wrap1 hu (by omega)
      have hlu : (u : Int) < (j : Int) := by omega
      have hlt2 : (u : Int) < (t.length : Int) := by omega
      have hlt3 : u < t.length := by omega
      by_cases e1 : z.name = headB x.name
      · have hf := find_first (l := t.take j) (j := u) (y := z) (by rw [List.take_take, Nat.min_eq_left (by omega)]; exact g5) (by rw [List.getElem?_take, if_pos hu]; exact hz) e1
        (simp -implicitDefEqProofs +contextual (maxSteps := 8000000) only [go_sem, ↓reduceIte, zn0, zn1, zn2, zn3, zn4, reduceCtorEq, zn5, zi0, zi1, zi2, zi3, zi4, zn6, zn7, zn8, zn9, encTable, envRn, h1, h2, h10, h11, hu, hlu, hlt2, hlt3, hmz, hw, e1, forall_eq'])
        apply dec_is
        rw [tail]
        constructor
        · intro h; exact ⟨z, hf, by simpa using h⟩
        · rintro ⟨z', h, h'⟩; rw [hf] at h; injection h with h; subst h; simp [h']
      · (simp -implicitDefEqProofs +contextual (maxSteps := 8000000) only [go_sem, ↓reduceIte, zn0, zn1, zn2, zn3, zn4, reduceCtorEq, zn5, zi0, zi1, zi2, zi3, zi4, zn6, zn7, zn8, zn9, encTable, envRn, h1, h2, h10, h11, hu, hlu, hlt2, hlt3, hmz, hw, e1, forall_eq'])
        exact ⟨n - 1, by omega, u + 1, by simp [lk, h1], by simp [lk, h2, encTable], by simp [lk, h10], by simp [lk], by omega, by omega, mem_take_snoc g5 hz e1⟩
    obtain rfl : u = j := by omega
    have hlu : ¬ (u : Int) < (u : Int) := by omega
    (simp -implicitDefEqProofs +contextual (maxSteps := 8000000) only [go_sem, ↓reduceIte, zn0, zn1, zn2, zn3, zn4, reduceCtorEq, zn5, zi0, zi1, zi2, zi3, zi4, zn6, zn7, zn8, zn9, encTable, envRn, h1, h2, h10, h11, hu, hlu])
    exact (dec_false fun hN => by
      obtain ⟨z, h, _⟩ := tail.1 hN
      rw [find_none.2 g5] at h; cases h).symm
end Go.Proofs.YtmdkcapbahjipaaDoor.Ag
