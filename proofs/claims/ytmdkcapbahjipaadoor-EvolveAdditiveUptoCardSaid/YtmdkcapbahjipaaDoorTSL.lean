/- Layer 1 on lists and numbers alone. -/
import Derived.IntWalk
import Derived.Test.YtmdkcapbahjipaaDoorAg16
import Derived.Test.YtmdkcapbahjipaaDoorAgV
import Derived.Lib.Join
import Derived.Test.YtmdkcapbahjipaaDoorAgX
set_option linter.unusedVariables false
namespace Go.Proofs.YtmdkcapbahjipaaDoor.Ag

end Go.Proofs.YtmdkcapbahjipaaDoor.Ag
-- sem
set_option linter.unusedSimpArgs false
namespace Go.Proofs.YtmdkcapbahjipaaDoor.Ag

theorem wrap_i64 {n : Int} (h0 : -9223372036854775808 ≤ n) (h1 : n < 9223372036854775808) : IntKind.i64.wrap n = n := IntWalk.i64_in n (by omega)


structure Sym where
  name : ByteArray
  num : Int
structure FT where
  name : ByteArray
  number : Int
  kind : Int
  ref : Int
  label : Int
  oneof : Int
  key : Int
structure Rng where
  low : Int
  high : Int
structure Ty where
  name : ByteArray
  enum : Bool
  fields : List FT
  oneofs : List ByteArray
  syms : List Sym
  rsv : List Rng

def encSym (s : Sym) : IV := .agg [.str s.name, .int .i64 s.num]
def encFT (f : FT) : IV := .agg [.str f.name, .int .i64 f.number, .int .i64 f.kind, .int .i64 f.ref, .int .i64 f.label, .int .i64 f.oneof, .int .i64 f.key]
def encRng (r : Rng) : IV := .agg [.int .i64 r.low, .int .i64 r.high]
def encTy (x : Ty) : IV := .agg [.str x.name, .bool x.enum, .slice (x.fields.map encFT), .slice (x.oneofs.map .str), .slice (x.syms.map encSym), .slice (x.rsv.map encRng)]
def encTable (t : List Ty) : IV := .agg [.slice (t.map encTy)]

theorem encSym_inj {a b : Sym} (h : encSym a = encSym b) : a = b := by
  cases a; cases b; simp [encSym] at h; simp [h]
theorem encFT_inj {a b : FT} (h : encFT a = encFT b) : a = b := by
  cases a; cases b; simp [encFT] at h; simp [h]
theorem encRng_inj {a b : Rng} (h : encRng a = encRng b) : a = b := by
  cases a; cases b; simp [encRng] at h; simp [h]
theorem map_inj' {α β : Type} {f : α → β} (hf : ∀ {a b}, f a = f b → a = b) : ∀ {l m : List α}, l.map f = m.map f → l = m
  | [], [], _ => rfl
  | [], _ :: _, h => by simp at h
  | _ :: _, [], h => by simp at h
  | a :: l, b :: m, h => by
    simp only [List.map_cons, List.cons.injEq] at h
    rw [hf h.1, map_inj' hf h.2]
theorem encTy_inj {a b : Ty} (h : encTy a = encTy b) : a = b := by
  cases a; cases b
  simp only [encTy, IV.agg.injEq, List.cons.injEq, IV.str.injEq, IV.bool.injEq, IV.slice.injEq, and_true] at h
  obtain ⟨h1, h2, h3, h4, h5, h6⟩ := h
  rw [h1, h2, map_inj' encFT_inj h3, map_inj' (fun h => IV.str.inj h) h4, map_inj' encSym_inj h5, map_inj' encRng_inj h6]
theorem encTable_inj {a b : List Ty} (h : encTable a = encTable b) : a = b := by
  simp only [encTable, IV.agg.injEq, List.cons.injEq, IV.slice.injEq, and_true] at h
  exact map_inj' encTy_inj h

noncomputable def decOf {α : Type} (enc : α → IV) (x : IV) : Option α := by
  classical exact if h : ∃ a, enc a = x then some (Classical.choose h) else none
theorem decOf_enc {α : Type} {enc : α → IV} (hi : ∀ {a b}, enc a = enc b → a = b) (a : α) : decOf enc (enc a) = some a := by
  classical
  unfold decOf
  have h : ∃ b, enc b = enc a := ⟨a, rfl⟩
  rw [dif_pos h]
  exact congrArg some (hi (Classical.choose_spec h))
theorem decOf_inv {α : Type} {enc : α → IV} {x : IV} {a : α} (h : decOf enc x = some a) : x = enc a := by
  classical
  unfold decOf at h
  split at h
  · rename_i h1
    injection h with h
    rw [← Classical.choose_spec h1, h]
  · cases h
noncomputable def decTable := decOf encTable
theorem decTable_enc (a) : decTable (encTable a) = some a := decOf_enc encTable_inj a
theorem decTable_enc_inv {x a} (h : decTable x = some a) : x = encTable a := decOf_inv h
noncomputable def decTy := decOf encTy
theorem decTy_enc (a) : decTy (encTy a) = some a := decOf_enc encTy_inj a
theorem decTy_enc_inv {x a} (h : decTy x = some a) : x = encTy a := decOf_inv h
noncomputable def decFT := decOf encFT
theorem decFT_enc (a) : decFT (encFT a) = some a := decOf_enc encFT_inj a
theorem decFT_enc_inv {x a} (h : decFT x = some a) : x = encFT a := decOf_inv h

def letN (n : Int) : Bool := decide (97 ≤ n ∧ n ≤ 122) || decide (65 ≤ n ∧ n ≤ 90) || decide (n = 95)
def digN (n : Int) : Bool := decide (48 ≤ n ∧ n ≤ 57)
def wordN (c : UInt8) : Bool := letN c.toNat || digN c.toNat
def nameL (l : List UInt8) : Bool := (match l with | [] => false | c :: _ => letN c.toNat) && l.all wordN
def nameB (s : ByteArray) : Bool := nameL s.data.toList
def spl : List UInt8 → List (List UInt8)
  | [] => [[]]
  | c :: r => if c = 46 then [] :: spl r else match spl r with
    | h :: t => (c :: h) :: t
    | [] => [[c]]
theorem spl_ne : ∀ l, spl l ≠ []
  | [] => by simp [spl]
  | c :: r => by
    unfold spl
    split
    · simp
    · split <;> simp
def hd (p : List UInt8) : List (List UInt8) → List (List UInt8)
  | h :: t => (p ++ h) :: t
  | [] => [p]
theorem hd_nil : ∀ {l : List (List UInt8)}, l ≠ [] → hd [] l = l
  | [], h => absurd rfl h
  | h :: t, _ => rfl
theorem spl_dot (r : List UInt8) : spl (46 :: r) = [] :: spl r := by simp [spl]
theorem hd_cons {c : UInt8} (hc : c ≠ 46) (p r : List UInt8) : hd p (spl (c :: r)) = hd (p ++ [c]) (spl r) := by
  simp only [spl, if_neg hc]
  split
  · rename_i h t e; rw [e]; simp [hd]
  · rename_i e; exact absurd e (spl_ne r)
theorem spl_none : ∀ {l : List UInt8}, l.count 46 = 0 → spl l = [l]
  | [], _ => rfl
  | c :: r, h => by
    have hc : c ≠ 46 := by rintro rfl; simp at h
    have hr : r.count 46 = 0 := by rw [List.count_cons] at h; simp [hc] at h; simpa using h
    simp only [spl, if_neg hc, spl_none hr]
theorem spl_first : ∀ {a r : List UInt8}, a.count 46 = 0 → spl (a ++ 46 :: r) = a :: spl r
  | [], r, _ => by simp [spl]
  | c :: a, r, h => by
    have hc : c ≠ 46 := by rintro rfl; simp at h
    have hr : a.count 46 = 0 := by rw [List.count_cons] at h; simp [hc] at h; simpa using h
    have := spl_first (r := r) hr
    simp only [List.cons_append, spl, if_neg hc, this]
theorem spl_len : ∀ (l : List UInt8), (spl l).length = l.count 46 + 1
  | [] => rfl
  | c :: r => by
    have := spl_len r
    by_cases hc : c = 46
    · subst hc; simp [spl, this]
    · rw [List.count_cons]
      simp only [spl, if_neg hc]
      split
      · rename_i h t e; rw [e] at this; simp [hc]; simpa using this
      · rename_i e; exact absurd e (spl_ne r)
def mkBA (l : List UInt8) : ByteArray := ⟨l.toArray⟩
theorem mkBA_data (s : ByteArray) : mkBA s.data.toList = s := by cases s; simp [mkBA]
theorem mkBA_toList (l : List UInt8) : (mkBA l).data.toList = l := by simp [mkBA]
theorem mkBA_size (l : List UInt8) : (mkBA l).size = l.length := by simp [mkBA, ByteArray.size]
def parts (s : ByteArray) : List ByteArray := (spl s.data.toList).map mkBA
def headL : List UInt8 → List UInt8
  | l => Lib.join (spl l).dropLast [46]
theorem join_spl : ∀ (l : List UInt8), Lib.join (spl l) [46] = l
  | [] => by simp [spl, Lib.join_one]
  | c :: r => by
    have ih := join_spl r
    by_cases hc : c = 46
    · subst hc
      rw [spl_dot, Lib.join_cons]
      cases hs : spl r with
      | nil => exact absurd hs (spl_ne r)
      | cons x t =>
        rw [hs, Lib.join_cons] at ih
        simpa [Lib.joinTail] using ih
    · simp only [spl, if_neg hc]
      cases hs : spl r with
      | nil => exact absurd hs (spl_ne r)
      | cons x t =>
        rw [hs, Lib.join_cons] at ih
        simp [Lib.join_cons, ih]
theorem join_snoc (sep : List UInt8) : ∀ (xs : List (List UInt8)) (y : List UInt8), xs ≠ [] → Lib.join (xs ++ [y]) sep = Lib.join xs sep ++ sep ++ y
  | [], _, h => absurd rfl h
  | x :: r, y, _ => by
    rw [List.cons_append, Lib.join_cons, Lib.join_cons]
    have h := Lib.joinTail_take_succ sep (r ++ [y]) r.length y (by simp)
    rw [List.take_of_length_le (by simp), List.take_left] at h
    rw [h]; simp
theorem headL_take {l : List UInt8} {y : List UInt8} (hl : (spl l).getLast? = some y) (h2 : (spl l).length ≠ 1) : headL l = l.take (l.length - y.length - 1) ∧ y.length + 1 ≤ l.length := by
  have e : (spl l).dropLast ++ [y] = spl l := by
    have h9 := List.getLast?_eq_some_iff.1 hl
    obtain ⟨ys, hy⟩ := h9
    rw [hy]; simp
  have hne : (spl l).dropLast ≠ [] := by
    intro h0
    rw [h0] at e
    rw [← e] at h2
    simp at h2
  have h3 := join_snoc [46] (spl l).dropLast y hne
  rw [e, join_spl] at h3
  have h4 : l.length = (Lib.join (spl l).dropLast [46]).length + 1 + y.length := by
    have := congrArg List.length h3
    simp at this
    omega
  refine ⟨?_, by omega⟩
  have : l.take (l.length - y.length - 1) = (Lib.join (spl l).dropLast [46] ++ ([46] ++ y)).take (Lib.join (spl l).dropLast [46]).length := by
    rw [show l.length - y.length - 1 = (Lib.join (spl l).dropLast [46]).length by omega]
    rw [← List.append_assoc, ← h3]
  rw [this, List.take_left, headL]

def isKeyN (k : Int) : Bool := decide (1 ≤ k ∧ k ≤ 11) || decide (k = 14)
def numericN (k : Int) : Bool := decide (1 ≤ k ∧ k ≤ 13) || decide (k = 16)
def wireN (k : Int) : Int := if (1 ≤ k ∧ k ≤ 7) ∨ k = 16 then 0 else if k = 8 ∨ k = 10 ∨ k = 12 then 5 else if k = 9 ∨ k = 11 ∨ k = 13 then 1 else 2
def sortB (t : List Ty) (i : Int) (e : Bool) : Bool := decide (0 ≤ i) && (match t[i.toNat]? with | some x => x.enum == e | none => false)
def fieldB (t : List Ty) (x : Ty) (f : FT) : Bool :=
  (if f.kind = 16 ∨ f.kind = 17 then sortB t f.ref (decide (f.kind = 16)) else decide (f.ref = 0 ∧ 1 ≤ f.kind ∧ f.kind ≤ 17)) &&
  (decide (0 ≤ f.label ∧ f.label ≤ 5) && (!decide (f.label = 0 ∧ f.kind = 17) && ((!decide (f.label = 3) || numericN f.kind) &&
  ((if f.label = 4 then decide (0 ≤ f.oneof ∧ f.oneof < x.oneofs.length) else decide (f.oneof = 0)) &&
  (if f.label = 5 then isKeyN f.key else decide (f.key = 0))))))
def rsvIn (l : List Rng) (n : Int) : Bool := l.any fun r => decide (r.low ≤ n ∧ n ≤ r.high)
def RsvOk (l : List Rng) : Prop := ∀ (i : Nat) (r : Rng), l[i]? = some r → 1 ≤ r.low ∧ r.high ≤ 536870911 ∧ r.low ≤ r.high ∧ ∀ p : Rng, 0 < i → l[i - 1]? = some p → p.high < r.low
def EnumOk (x : Ty) : Prop := 1 ≤ x.syms.length ∧ x.syms.length ≤ 128 ∧ (∀ s : Sym, x.syms[0]? = some s → s.num = 0) ∧ x.fields.length = 0 ∧ x.oneofs.length = 0 ∧ x.rsv.length = 0 ∧
  (∀ s ∈ x.syms, nameB s.name = true ∧ 0 ≤ s.num ∧ s.num ≤ 2147483647) ∧ (x.syms.map Sym.name).Nodup ∧ (x.syms.map Sym.num).Nodup
def names (x : Ty) : List ByteArray := x.oneofs ++ x.fields.map FT.name
def FieldOk (t : List Ty) (x : Ty) (i : Nat) (f : FT) : Prop := 1 ≤ f.number ∧ f.number ≤ 536870911 ∧ rsvIn x.rsv f.number = false ∧ fieldB t x f = true ∧ ∀ p, 0 < i → x.fields[i - 1]? = some p → p.number < f.number
def MsgOk (t : List Ty) (x : Ty) : Prop := x.syms.length = 0 ∧ x.fields.length ≤ 128 ∧ x.rsv.length ≤ 128 ∧ (∀ n ∈ names x, nameB n = true) ∧ (names x).Nodup ∧ RsvOk x.rsv ∧
  (∀ (i : Nat) (f : FT), x.fields[i]? = some f → FieldOk t x i f) ∧ ∀ i : Nat, i < x.oneofs.length → ∃ f ∈ x.fields, f.label = 4 ∧ f.oneof = i
def headB (s : ByteArray) : ByteArray := mkBA (headL s.data.toList)
def NameOk (l : List Ty) (x : Ty) : Prop := (∀ y ∈ l, y.name ≠ x.name) ∧ (parts x.name).length ≤ (if x.enum then 9 else 8) ∧ (∀ p ∈ parts x.name, nameB p = true) ∧
  ((parts x.name).length = 1 ∨ ∃ y, l.find? (fun y => decide (y.name = headB x.name)) = some y ∧ y.enum = false)
def TyOk (t : List Ty) (x : Ty) : Prop := (x.enum = true → EnumOk x) ∧ (x.enum = false → MsgOk t x)
def GoodT (t : List Ty) : Prop := t.length ≤ 128 ∧ ∀ (i : Nat) (x : Ty), t[i]? = some x → NameOk (t.take i) x ∧ TyOk t x
open Classical in
noncomputable def dec (p : Prop) : Bool := decide p
theorem dec_true {p : Prop} (h : p) : dec p = true := by simp [dec, h]
theorem dec_false {p : Prop} (h : ¬ p) : dec p = false := by simp [dec, h]
theorem dec_iff {p : Prop} : dec p = true ↔ p := by simp [dec]
theorem dec_iffF {p : Prop} : dec p = false ↔ ¬ p := by simp [dec]
theorem dec_is {p : Prop} {b : Bool} (h : b = true ↔ p) : b = dec p := by
  cases b with
  | true => exact (dec_true (h.1 rfl)).symm
  | false => exact (dec_false fun hp => by simpa using h.2 hp).symm

def okTy (x : Ty) : Prop := x.name.size ≤ 2000000 ∧ x.fields.length ≤ 2000000 ∧ x.oneofs.length ≤ 2000000 ∧ x.syms.length ≤ 2000000 ∧ x.rsv.length ≤ 2000000 ∧
  (∀ f ∈ x.fields, f.name.size ≤ 2000000) ∧ (∀ o ∈ x.oneofs, o.size ≤ 2000000) ∧ ∀ s ∈ x.syms, s.name.size ≤ 2000000
def okT (t : List Ty) : Prop := t.length ≤ 2000000 ∧ ∀ x ∈ t, okTy x

theorem pigeon {α : Type} (p : α → Int) : ∀ (n : Nat) (l : List α), (∀ i : Nat, i < n → ∃ f ∈ l, p f = i) → n ≤ l.length
  | 0, _, _ => by omega
  | n + 1, l, h => by
    obtain ⟨f, hf, hp⟩ := h n (by omega)
    have h1 := pigeon p n (l.filter fun g => decide (p g ≠ n)) (fun i hi => by
      obtain ⟨g, hg, hq⟩ := h i (by omega)
      exact ⟨g, List.mem_filter.2 ⟨hg, by simp; omega⟩, hq⟩)
    have h2 : (l.filter fun g => decide (p g ≠ n)).length < l.length := by
      have h3 := List.length_filter_lt_length_iff_exists (p := fun g => decide (p g ≠ (n : Int))) (l := l)
      exact h3.2 ⟨f, hf, by simp [hp]⟩
    omega
end Go.Proofs.YtmdkcapbahjipaaDoor.Ag
namespace Go.Proofs.YtmdkcapbahjipaaDoor.Ag

theorem keyEq_str (a b : ByteArray) : keyEq (.str a) (.str b) = decide (a = b) := rfl
def encNames (v : IV) (l : List ByteArray) : List (IV × TV) := l.map fun s => (.str s, .iv v)
theorem mfind_none : ∀ {v : IV} {l : List ByteArray} {s : ByteArray} (i : Nat), s ∉ l → mfindI (.str s) (encNames v l) i = none
  | v, [], s, i, _ => rfl
  | v, x :: l, s, i, h => by
    have h1 : ¬ s = x := fun e => h (by simp [e])
    have h2 := mfind_none (v := v) (l := l) (s := s) (i + 1) (fun e => h (by simp [e]))
    simp only [encNames] at h2
    simp only [encNames, List.map_cons, mfindI, keyEq_str, h1, decide_false, Bool.false_eq_true, if_false, h2]
theorem mfind_some : ∀ {v : IV} {l : List ByteArray} {s : ByteArray} (i : Nat), s ∈ l → ∃ j, mfindI (.str s) (encNames v l) i = some (j, .iv v)
  | v, [], s, i, h => by cases h
  | v, x :: l, s, i, h => by
    by_cases h1 : s = x
    · exact ⟨i, by simp [encNames, mfindI, keyEq_str, h1]⟩
    · have h3 : s ∈ l := by rcases List.mem_cons.1 h with e | e; exact absurd e h1; exact e
      obtain ⟨j, h2⟩ := mfind_some (v := v) (i + 1) h3
      refine ⟨j, ?_⟩
      simp only [encNames] at h2
      simp only [encNames, List.map_cons, mfindI, keyEq_str, h1, decide_false, Bool.false_eq_true, if_false, h2]
theorem encNames_snoc (v : IV) (l : List ByteArray) (s : ByteArray) : encNames v l ++ [(.str s, .iv v)] = encNames v (l ++ [s]) := by simp [encNames]
theorem mput_new {v : IV} {l : List ByteArray} {s : ByteArray} (h : s ∉ l) : mput (.str s) (.iv v) (encNames v l) = encNames v (l ++ [s]) := by
  simp only [mput, mfind_none 0 h, encNames_snoc]

def encNums (v : IV) (l : List Int) : List (IV × TV) := l.map fun n => (.int .i64 n, .iv v)
theorem mfindN_none : ∀ {v : IV} {l : List Int} {s : Int} (i : Nat), s ∉ l → mfindI (.int .i64 s) (encNums v l) i = none
  | v, [], s, i, _ => rfl
  | v, x :: l, s, i, h => by
    have h1 : ¬ s = x := fun e => h (by simp [e])
    have h2 := mfindN_none (v := v) (l := l) (s := s) (i + 1) (fun e => h (by simp [e]))
    simp only [encNums] at h2
    simp [encNums, mfindI, keyEq, h1, h2]
theorem mfindN_some : ∀ {v : IV} {l : List Int} {s : Int} (i : Nat), s ∈ l → ∃ j, mfindI (.int .i64 s) (encNums v l) i = some (i + j, .iv v) ∧ l[j]? = some s
  | v, [], s, i, h => by cases h
  | v, x :: l, s, i, h => by
    by_cases h1 : s = x
    · exact ⟨0, by simp [encNums, mfindI, keyEq, h1], by simp [h1]⟩
    · have h3 : s ∈ l := by rcases List.mem_cons.1 h with e | e; exact absurd e h1; exact e
      obtain ⟨j, h2, h4⟩ := mfindN_some (v := v) (i + 1) h3
      refine ⟨j + 1, ?_, by simpa using h4⟩
      simp only [encNums] at h2
      rw [show i + (j + 1) = i + 1 + j by omega, ← h2]
      simp [encNums, mfindI, keyEq, h1]
def putNum (l : List Int) (n : Int) : List Int := if n ∈ l then l else l ++ [n]
theorem mputN (v : IV) (l : List Int) (n : Int) : mput (.int .i64 n) (.iv v) (encNums v l) = encNums v (putNum l n) := by
  unfold putNum
  split
  · rename_i h
    obtain ⟨j, h1, h2⟩ := mfindN_some (v := v) 0 h
    simp only [mput, h1, Nat.zero_add]
    simp only [encNums]
    apply List.ext_getElem?
    intro q
    rw [List.getElem?_set]
    split
    · rename_i e; subst e
      have := (List.getElem?_eq_some_iff.1 h2).1
      rw [List.getElem?_map, h2, List.length_map]; simp [this]
    · rfl
  · rename_i h
    have h0 := mfindN_none (v := v) 0 h
    unfold mput
    rw [h0]; simp [encNums]
theorem encNums_len (v : IV) (l : List Int) : (encNums v l).length = l.length := by simp [encNums]
structure Met (seen : List Int) (l : List Int) : Prop where
  mem : ∀ n, n ∈ seen ↔ n ∈ l
  le : seen.length ≤ l.length
  eq : seen.length = l.length ↔ l.Nodup
theorem Met.nil : Met [] [] := ⟨by simp, by simp, by simp⟩
theorem Met.put {seen l : List Int} (h : Met seen l) (n : Int) : Met (putNum seen n) (l ++ [n]) := by
  unfold putNum
  by_cases hn : n ∈ seen
  · rw [if_pos hn]
    refine ⟨fun m => ?_, ?_, ?_⟩
    · rw [h.mem]
      simp only [List.mem_append, List.mem_singleton]
      exact ⟨.inl, fun e => by rcases e with e | rfl; exact e; exact (h.mem _).1 hn⟩
    · have := h.le; simp; omega
    · have := h.le
      constructor
      · intro e; simp at e; omega
      · intro e
        rw [List.nodup_append] at e
        exact absurd rfl (e.2.2 n ((h.mem n).1 hn) n (by simp))
  · rw [if_neg hn]
    refine ⟨fun m => ?_, ?_, ?_⟩
    · simp [h.mem]
    · have := h.le; simp; omega
    · have h1 := h.eq
      simp only [List.length_append, List.length_singleton, Nat.add_right_cancel_iff]
      rw [h1, List.nodup_append]
      constructor
      · intro e; exact ⟨e, by simp, fun a ha b hb => by rintro rfl; rw [List.mem_singleton] at hb; subst hb; exact hn ((h.mem _).2 ha)⟩
      · exact fun e => e.1

def encAhead (l : List Ty) : List (IV × TV) := l.zipIdx.map fun x => (.str x.1.name, .iv (.int .i64 (x.2 : Int)))
theorem ahead_find (h : ByteArray) : ∀ (l : List Ty) (b i : Nat), match l.find? (fun y => decide (y.name = h)) with
    | none => mfindI (.str h) ((l.zipIdx b).map fun x => (IV.str x.1.name, TV.iv (.int .i64 (x.2 : Int)))) i = none
    | some y => ∃ j q, mfindI (.str h) ((l.zipIdx b).map fun x => (IV.str x.1.name, TV.iv (.int .i64 (x.2 : Int)))) i = some (q, .iv (.int .i64 ((b + j : Nat) : Int))) ∧ l[j]? = some y
  | [], b, i => rfl
  | x :: l, b, i => by
    rw [List.find?_cons]
    by_cases hx : x.name = h
    · simp only [hx, decide_true]
      exact ⟨0, i, by simp [mfindI, keyEq_str, hx], rfl⟩
    · simp only [hx, decide_false]
      have ih := ahead_find h l (b + 1) (i + 1)
      have hx' : ¬ h = x.name := fun e => hx e.symm
      split
      · rename_i e
        rw [e] at ih
        simp only [List.zipIdx_cons, List.map_cons, mfindI, keyEq_str, hx', decide_false, Bool.false_eq_true, if_false]
        exact ih
      · rename_i y e
        rw [e] at ih
        obtain ⟨j, q, h1, h2⟩ := ih
        refine ⟨j + 1, q, ?_, by simpa using h2⟩
        simp only [List.zipIdx_cons, List.map_cons, mfindI, keyEq_str, hx', decide_false, Bool.false_eq_true, if_false]
        rw [h1]; congr 4; omega
theorem ahead_none {l : List Ty} {h : ByteArray} (e : l.find? (fun y => decide (y.name = h)) = none) : mfindI (.str h) (encAhead l) 0 = none := by
  have := ahead_find h l 0 0
  rw [e] at this; exact this
theorem ahead_some {l : List Ty} {h : ByteArray} {y : Ty} (e : l.find? (fun y => decide (y.name = h)) = some y) : ∃ j q : Nat, mfindI (.str h) (encAhead l) 0 = some (q, .iv (.int .i64 (j : Int))) ∧ l[j]? = some y := by
  have := ahead_find h l 0 0
  rw [e] at this
  obtain ⟨j, q, h1, h2⟩ := this
  exact ⟨j, q, by rw [encAhead, h1]; simp, h2⟩
theorem ahead_snoc (l : List Ty) (x : Ty) : encAhead l ++ [(.str x.name, .iv (.int .i64 (l.length : Int)))] = encAhead (l ++ [x]) := by
  simp [encAhead, List.zipIdx_append]
theorem find_none {l : List Ty} {h : ByteArray} : l.find? (fun y => decide (y.name = h)) = none ↔ ∀ y ∈ l, y.name ≠ h := by
  simp [List.find?_eq_none]
theorem ahead_put {l : List Ty} {x : Ty} (e : ∀ y ∈ l, y.name ≠ x.name) : mput (.str x.name) (.iv (.int .i64 (l.length : Int))) (encAhead l) = encAhead (l ++ [x]) := by
  simp only [mput, ahead_none (find_none.2 e), ahead_snoc]

def cnt (l : List FT) (j : Nat) : Nat := l.countP fun f => decide (f.label = 4) && decide (f.oneof = (j : Int))
def encCnt (l : List FT) (n : Nat) : List IV := (List.range n).map fun j => .int .i64 (cnt l j : Int)
theorem encCnt_nil (n : Nat) : encCnt [] n = List.replicate n (.int .i64 0) := by
  simp only [encCnt, cnt, List.countP_nil, Int.natCast_zero]
  exact List.map_const' .. |>.trans (by simp)
theorem encCnt_len (l : List FT) (n : Nat) : (encCnt l n).length = n := by simp [encCnt]
theorem encCnt_get (l : List FT) {n j : Nat} (h : j < n) : (encCnt l n)[j]? = some (.int .i64 (cnt l j : Int)) := by simp [encCnt, h]
theorem encCnt_same (l : List FT) (f : FT) (n : Nat) (h : f.label ≠ 4) : encCnt (l ++ [f]) n = encCnt l n := by
  simp [encCnt, cnt, List.countP_append, h]
theorem encCnt_put (l : List FT) (f : FT) (n j : Nat) (h : f.label = 4) (hj : f.oneof = j) : (encCnt l n).set j (.int .i64 ((cnt l j : Int) + 1)) = encCnt (l ++ [f]) n := by
  apply List.ext_getElem?
  intro q
  rw [List.getElem?_set]
  by_cases hq : q < n
  · rw [encCnt_get _ hq, encCnt_get _ hq]
    by_cases e : j = q
    · subst e; simp [encCnt_len, hq, cnt, List.countP_append, h, hj]
    · have : ¬ ((j : Int) = (q : Int)) := by omega
      simp [e, cnt, List.countP_append, h, hj, this]
  · have h1 : (encCnt l n)[q]? = none := by simp [encCnt]; omega
    have h2 : (encCnt (l ++ [f]) n)[q]? = none := by simp [encCnt]; omega
    rw [h1, h2]
    split
    · rename_i e; subst e; simp [encCnt_len, hq]
    · rfl
theorem cnt_pos {l : List FT} {j : Nat} : cnt l j ≠ 0 ↔ ∃ f ∈ l, f.label = 4 ∧ f.oneof = j := by
  rw [← Nat.pos_iff_ne_zero, cnt, List.countP_pos_iff]
  simp
theorem cnt_le (l : List FT) (j : Nat) : cnt l j ≤ l.length := List.countP_le_length

theorem extract_mk (s : ByteArray) (a b : Nat) : s.extract a b = mkBA ((s.data.toList.drop a).take (b - a)) := Lib.extract_eq s a b
theorem flat_str (l : List ByteArray) : flat (l.map IV.str) = l.map IV.str := by
  induction l with
  | nil => rfl
  | cons a r ih => simp only [List.map_cons]; unfold flat at ih ⊢; rw [List.flatMap_cons, ih]; rfl
theorem oneSize_str (l : List ByteArray) : oneSize 1 (l.map IV.str) = true := by
  induction l with
  | nil => rfl
  | cons a r ih => simp [oneSize, ih, IV.cells]
end Go.Proofs.YtmdkcapbahjipaaDoor.Ag
