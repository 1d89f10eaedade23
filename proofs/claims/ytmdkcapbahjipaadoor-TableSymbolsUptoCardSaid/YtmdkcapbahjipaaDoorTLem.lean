/- Maps of names, of numbers; parts of names; counters. -/
import Derived.Test.YtmdkcapbahjipaaDoorTSpec
import Derived.Test.YtmdkcapbahjipaaDoorAgX
set_option linter.unusedVariables false
set_option linter.unusedSimpArgs false
namespace Go.Proofs.YtmdkcapbahjipaaDoor.Ag

theorem keyEq_str (a b : ByteArray) : keyEq (.str a) (.str b) = decide (a = b) := rfl
def encNames (v : IV) (l : List ByteArray) : List (IV × TV) := l.map fun s => (.str s, .iv v)
theorem mfind_none : ∀ {v : IV} {l : List ByteArray} {s : ByteArray} (i : Nat), s ∉ l → mfindI (.str s) (encNames v l) i = none
  | v, [], s, i, _ => rfl
  | v, x :: l, s, i, h => by
    have h1 : ¬ s = x := fun e => h (by simp [e])
    have h2 := mfind_none (v := v) (l := l) (s := s) (i + 1) (fun e => h (by simp [e]))
    simp only [encNames] at h2
    simp only [encNames, List.map_cons, mfindI, keyEq_str, h1, decide_false, Bool.false_eq_true, if_false, h2]
theorem mfind_some : ∀ {v : IV} {l : List ByteArray} {s : ByteArray} (i : Nat), s ∈ l → ∃ j, mfindI (.str s) (encNames v l) i = some (j, .iv v)
  | v, [], s, i, h => by cases h
  | v, x :: l, s, i, h => by
    by_cases h1 : s = x
    · exact ⟨i, by simp [encNames, mfindI, keyEq_str, h1]⟩
    · have h3 : s ∈ l := by rcases List.mem_cons.1 h with e | e; exact absurd e h1; exact e
      obtain ⟨j, h2⟩ := mfind_some (v := v) (i + 1) h3
      refine ⟨j, ?_⟩
      simp only [encNames] at h2
      simp only [encNames, List.map_cons, mfindI, keyEq_str, h1, decide_false, Bool.false_eq_true, if_false, h2]
theorem encNames_snoc (v : IV) (l : List ByteArray) (s : ByteArray) : encNames v l ++ [(.str s, .iv v)] = encNames v (l ++ [s]) := by simp [encNames]
theorem mput_new {v : IV} {l : List ByteArray} {s : ByteArray} (h : s ∉ l) : mput (.str s) (.iv v) (encNames v l) = encNames v (l ++ [s]) := by
  simp only [mput, mfind_none 0 h, encNames_snoc]

def encNums (v : IV) (l : List Int) : List (IV × TV) := l.map fun n => (.int .i64 n, .iv v)
theorem mfindN_none : ∀ {v : IV} {l : List Int} {s : Int} (i : Nat), s ∉ l → mfindI (.int .i64 s) (encNums v l) i = none
  | v, [], s, i, _ => rfl
  | v, x :: l, s, i, h => by
    have h1 : ¬ s = x := fun e => h (by simp [e])
    have h2 := mfindN_none (v := v) (l := l) (s := s) (i + 1) (fun e => h (by simp [e]))
    simp only [encNums] at h2
    simp [encNums, mfindI, keyEq, h1, h2]
theorem mfindN_some : ∀ {v : IV} {l : List Int} {s : Int} (i : Nat), s ∈ l → ∃ j, mfindI (.int .i64 s) (encNums v l) i = some (i + j, .iv v) ∧ l[j]? = some s
  | v, [], s, i, h => by cases h
  | v, x :: l, s, i, h => by
    by_cases h1 : s = x
    · exact ⟨0, by simp [encNums, mfindI, keyEq, h1], by simp [h1]⟩
    · have h3 : s ∈ l := by rcases List.mem_cons.1 h with e | e; exact absurd e h1; exact e
      obtain ⟨j, h2, h4⟩ := mfindN_some (v := v) (i + 1) h3
      refine ⟨j + 1, ?_, by simpa using h4⟩
      simp only [encNums] at h2
      rw [show i + (j + 1) = i + 1 + j by omega, ← h2]
      simp [encNums, mfindI, keyEq, h1]
def putNum (l : List Int) (n : Int) : List Int := if n ∈ l then l else l ++ [n]
theorem mputN (v : IV) (l : List Int) (n : Int) : mput (.int .i64 n) (.iv v) (encNums v l) = encNums v (putNum l n) := by
  unfold putNum
  split
  · rename_i h
    obtain ⟨j, h1, h2⟩ := mfindN_some (v := v) 0 h
    simp only [mput, h1, Nat.zero_add]
    simp only [encNums]
    apply List.ext_getElem?
    intro q
    rw [List.getElem?_set]
    split
    · rename_i e; subst e
      have := (List.getElem?_eq_some_iff.1 h2).1
      rw [List.getElem?_map, h2, List.length_map]; simp [this]
    · rfl
  · rename_i h
    have h0 := mfindN_none (v := v) 0 h
    unfold mput
    rw [h0]; simp [encNums]
theorem encNums_len (v : IV) (l : List Int) : (encNums v l).length = l.length := by simp [encNums]
/-- What is known of the numbers met: of a list's first ones. -/
structure Met (seen : List Int) (l : List Int) : Prop where
  mem : ∀ n, n ∈ seen ↔ n ∈ l
  le : seen.length ≤ l.length
  eq : seen.length = l.length ↔ l.Nodup
theorem Met.nil : Met [] [] := ⟨by simp, by simp, by simp⟩
theorem Met.put {seen l : List Int} (h : Met seen l) (n : Int) : Met (putNum seen n) (l ++ [n]) := by
  unfold putNum
  by_cases hn : n ∈ seen
  · rw [if_pos hn]
    refine ⟨fun m => ?_, ?_, ?_⟩
    · rw [h.mem]
      simp only [List.mem_append, List.mem_singleton]
      exact ⟨.inl, fun e => by rcases e with e | rfl; exact e; exact (h.mem _).1 hn⟩
    · have := h.le; simp; omega
    · have := h.le
      constructor
      · intro e; simp at e; omega
      · intro e
        rw [List.nodup_append] at e
        exact absurd rfl (e.2.2 n ((h.mem n).1 hn) n (by simp))
  · rw [if_neg hn]
    refine ⟨fun m => ?_, ?_, ?_⟩
    · simp [h.mem]
    · have := h.le; simp; omega
    · have h1 := h.eq
      simp only [List.length_append, List.length_singleton, Nat.add_right_cancel_iff]
      rw [h1, List.nodup_append]
      constructor
      · intro e; exact ⟨e, by simp, fun a ha b hb => by rintro rfl; rw [List.mem_singleton] at hb; subst hb; exact hn ((h.mem _).2 ha)⟩
      · exact fun e => e.1

/-! ### types ahead -/
def encAhead (l : List Ty) : List (IV × TV) := l.zipIdx.map fun x => (.str x.1.name, .iv (.int .i64 (x.2 : Int)))
theorem ahead_find (h : ByteArray) : ∀ (l : List Ty) (b i : Nat), match l.find? (fun y => decide (y.name = h)) with
    | none => mfindI (.str h) ((l.zipIdx b).map fun x => (IV.str x.1.name, TV.iv (.int .i64 (x.2 : Int)))) i = none
    | some y => ∃ j q, mfindI (.str h) ((l.zipIdx b).map fun x => (IV.str x.1.name, TV.iv (.int .i64 (x.2 : Int)))) i = some (q, .iv (.int .i64 ((b + j : Nat) : Int))) ∧ l[j]? = some y
  | [], b, i => rfl
  | x :: l, b, i => by
    rw [List.find?_cons]
    by_cases hx : x.name = h
    · simp only [hx, decide_true]
      exact ⟨0, i, by simp [mfindI, keyEq_str, hx], rfl⟩
    · simp only [hx, decide_false]
      have ih := ahead_find h l (b + 1) (i + 1)
      have hx' : ¬ h = x.name := fun e => hx e.symm
      split
      · rename_i e
        rw [e] at ih
        simp only [List.zipIdx_cons, List.map_cons, mfindI, keyEq_str, hx', decide_false, Bool.false_eq_true, if_false]
        exact ih
      · rename_i y e
        rw [e] at ih
        obtain ⟨j, q, h1, h2⟩ := ih
        refine ⟨j + 1, q, ?_, by simpa using h2⟩
        simp only [List.zipIdx_cons, List.map_cons, mfindI, keyEq_str, hx', decide_false, Bool.false_eq_true, if_false]
        rw [h1]; congr 4; omega
theorem ahead_none {l : List Ty} {h : ByteArray} (e : l.find? (fun y => decide (y.name = h)) = none) : mfindI (.str h) (encAhead l) 0 = none := by
  have := ahead_find h l 0 0
  rw [e] at this; exact this
theorem ahead_some {l : List Ty} {h : ByteArray} {y : Ty} (e : l.find? (fun y => decide (y.name = h)) = some y) : ∃ j q : Nat, mfindI (.str h) (encAhead l) 0 = some (q, .iv (.int .i64 (j : Int))) ∧ l[j]? = some y := by
  have := ahead_find h l 0 0
  rw [e] at this
  obtain ⟨j, q, h1, h2⟩ := this
  exact ⟨j, q, by rw [encAhead, h1]; simp, h2⟩
theorem ahead_snoc (l : List Ty) (x : Ty) : encAhead l ++ [(.str x.name, .iv (.int .i64 (l.length : Int)))] = encAhead (l ++ [x]) := by
  simp [encAhead, List.zipIdx_append]
theorem find_none {l : List Ty} {h : ByteArray} : l.find? (fun y => decide (y.name = h)) = none ↔ ∀ y ∈ l, y.name ≠ h := by
  simp [List.find?_eq_none]
theorem ahead_put {l : List Ty} {x : Ty} (e : ∀ y ∈ l, y.name ≠ x.name) : mput (.str x.name) (.iv (.int .i64 (l.length : Int))) (encAhead l) = encAhead (l ++ [x]) := by
  simp only [mput, ahead_none (find_none.2 e), ahead_snoc]

/-! ### counters -/
def cnt (l : List FT) (j : Nat) : Nat := l.countP fun f => decide (f.label = 4) && decide (f.oneof = (j : Int))
def encCnt (l : List FT) (n : Nat) : List IV := (List.range n).map fun j => .int .i64 (cnt l j : Int)
theorem encCnt_nil (n : Nat) : encCnt [] n = List.replicate n (.int .i64 0) := by
  simp only [encCnt, cnt, List.countP_nil, Int.natCast_zero]
  exact List.map_const' .. |>.trans (by simp)
theorem encCnt_len (l : List FT) (n : Nat) : (encCnt l n).length = n := by simp [encCnt]
theorem encCnt_get (l : List FT) {n j : Nat} (h : j < n) : (encCnt l n)[j]? = some (.int .i64 (cnt l j : Int)) := by simp [encCnt, h]
theorem encCnt_same (l : List FT) (f : FT) (n : Nat) (h : f.label ≠ 4) : encCnt (l ++ [f]) n = encCnt l n := by
  simp [encCnt, cnt, List.countP_append, h]
theorem encCnt_put (l : List FT) (f : FT) (n j : Nat) (h : f.label = 4) (hj : f.oneof = j) : (encCnt l n).set j (.int .i64 ((cnt l j : Int) + 1)) = encCnt (l ++ [f]) n := by
  apply List.ext_getElem?
  intro q
  rw [List.getElem?_set]
  by_cases hq : q < n
  · rw [encCnt_get _ hq, encCnt_get _ hq]
    by_cases e : j = q
    · subst e; simp [encCnt_len, hq, cnt, List.countP_append, h, hj]
    · have : ¬ ((j : Int) = (q : Int)) := by omega
      simp [e, cnt, List.countP_append, h, hj, this]
  · have h1 : (encCnt l n)[q]? = none := by simp [encCnt]; omega
    have h2 : (encCnt (l ++ [f]) n)[q]? = none := by simp [encCnt]; omega
    rw [h1, h2]
    split
    · rename_i e; subst e; simp [encCnt_len, hq]
    · rfl
theorem cnt_pos {l : List FT} {j : Nat} : cnt l j ≠ 0 ↔ ∃ f ∈ l, f.label = 4 ∧ f.oneof = j := by
  rw [← Nat.pos_iff_ne_zero, cnt, List.countP_pos_iff]
  simp
theorem cnt_le (l : List FT) (j : Nat) : cnt l j ≤ l.length := List.countP_le_length

/-! ### pieces of strings -/
theorem extract_mk (s : ByteArray) (a b : Nat) : s.extract a b = mkBA ((s.data.toList.drop a).take (b - a)) := Lib.extract_eq s a b
theorem flat_str (l : List ByteArray) : flat (l.map IV.str) = l.map IV.str := by
  induction l with
  | nil => rfl
  | cons a r ih => simp only [List.map_cons]; unfold flat at ih ⊢; rw [List.flatMap_cons, ih]; rfl
theorem oneSize_str (l : List ByteArray) : oneSize 1 (l.map IV.str) = true := by
  induction l with
  | nil => rfl
  | cons a r ih => simp [oneSize, ih, IV.cells]
end Go.Proofs.YtmdkcapbahjipaaDoor.Ag
