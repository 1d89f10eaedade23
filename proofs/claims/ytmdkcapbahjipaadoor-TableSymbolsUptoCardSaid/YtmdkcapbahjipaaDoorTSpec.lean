/- Tables without memory: what a good one is. -/
import Derived.Test.YtmdkcapbahjipaaDoorAgV
import Derived.Lib.Join
set_option linter.unusedVariables false
set_option linter.unusedSimpArgs false
namespace Go.Proofs.YtmdkcapbahjipaaDoor.Ag

structure Sym where
  name : ByteArray
  num : Int
structure FT where
  name : ByteArray
  number : Int
  kind : Int
  ref : Int
  label : Int
  oneof : Int
  key : Int
structure Rng where
  low : Int
  high : Int
structure Ty where
  name : ByteArray
  enum : Bool
  fields : List FT
  oneofs : List ByteArray
  syms : List Sym
  rsv : List Rng

def encSym (s : Sym) : IV := .agg [.str s.name, .int .i64 s.num]
def encFT (f : FT) : IV := .agg [.str f.name, .int .i64 f.number, .int .i64 f.kind, .int .i64 f.ref, .int .i64 f.label, .int .i64 f.oneof, .int .i64 f.key]
def encRng (r : Rng) : IV := .agg [.int .i64 r.low, .int .i64 r.high]
def encTy (x : Ty) : IV := .agg [.str x.name, .bool x.enum, .slice (x.fields.map encFT), .slice (x.oneofs.map .str), .slice (x.syms.map encSym), .slice (x.rsv.map encRng)]
def encTable (t : List Ty) : IV := .agg [.slice (t.map encTy)]

theorem encSym_inj {a b : Sym} (h : encSym a = encSym b) : a = b := by
  cases a; cases b; simp [encSym] at h; simp [h]
theorem encFT_inj {a b : FT} (h : encFT a = encFT b) : a = b := by
  cases a; cases b; simp [encFT] at h; simp [h]
theorem encRng_inj {a b : Rng} (h : encRng a = encRng b) : a = b := by
  cases a; cases b; simp [encRng] at h; simp [h]
theorem map_inj' {α β : Type} {f : α → β} (hf : ∀ {a b}, f a = f b → a = b) : ∀ {l m : List α}, l.map f = m.map f → l = m
  | [], [], _ => rfl
  | [], _ :: _, h => by simp at h
  | _ :: _, [], h => by simp at h
  | a :: l, b :: m, h => by
    simp only [List.map_cons, List.cons.injEq] at h
    rw [hf h.1, map_inj' hf h.2]
theorem encTy_inj {a b : Ty} (h : encTy a = encTy b) : a = b := by
  cases a; cases b
  simp only [encTy, IV.agg.injEq, List.cons.injEq, IV.str.injEq, IV.bool.injEq, IV.slice.injEq, and_true] at h
  obtain ⟨h1, h2, h3, h4, h5, h6⟩ := h
  rw [h1, h2, map_inj' encFT_inj h3, map_inj' (fun h => IV.str.inj h) h4, map_inj' encSym_inj h5, map_inj' encRng_inj h6]
theorem encTable_inj {a b : List Ty} (h : encTable a = encTable b) : a = b := by
  simp only [encTable, IV.agg.injEq, List.cons.injEq, IV.slice.injEq, and_true] at h
  exact map_inj' encTy_inj h

/-- A value's reading back. -/
noncomputable def decOf {α : Type} (enc : α → IV) (x : IV) : Option α := by
  classical exact if h : ∃ a, enc a = x then some (Classical.choose h) else none
theorem decOf_enc {α : Type} {enc : α → IV} (hi : ∀ {a b}, enc a = enc b → a = b) (a : α) : decOf enc (enc a) = some a := by
  classical
  unfold decOf
  have h : ∃ b, enc b = enc a := ⟨a, rfl⟩
  rw [dif_pos h]
  exact congrArg some (hi (Classical.choose_spec h))
theorem decOf_inv {α : Type} {enc : α → IV} {x : IV} {a : α} (h : decOf enc x = some a) : x = enc a := by
  classical
  unfold decOf at h
  split at h
  · rename_i h1
    injection h with h
    rw [← Classical.choose_spec h1, h]
  · cases h
noncomputable def decTable := decOf encTable
theorem decTable_enc (a) : decTable (encTable a) = some a := decOf_enc encTable_inj a
theorem decTable_enc_inv {x a} (h : decTable x = some a) : x = encTable a := decOf_inv h
noncomputable def decTy := decOf encTy
theorem decTy_enc (a) : decTy (encTy a) = some a := decOf_enc encTy_inj a
theorem decTy_enc_inv {x a} (h : decTy x = some a) : x = encTy a := decOf_inv h
noncomputable def decFT := decOf encFT
theorem decFT_enc (a) : decFT (encFT a) = some a := decOf_enc encFT_inj a
theorem decFT_enc_inv {x a} (h : decFT x = some a) : x = encFT a := decOf_inv h

/-! ### names -/
def letN (n : Int) : Bool := decide (97 ≤ n ∧ n ≤ 122) || decide (65 ≤ n ∧ n ≤ 90) || decide (n = 95)
def digN (n : Int) : Bool := decide (48 ≤ n ∧ n ≤ 57)
def wordN (c : UInt8) : Bool := letN c.toNat || digN c.toNat
def nameL (l : List UInt8) : Bool := (match l with | [] => false | c :: _ => letN c.toNat) && l.all wordN
def nameB (s : ByteArray) : Bool := nameL s.data.toList
/-- The parts of a name between its dots. -/
def spl : List UInt8 → List (List UInt8)
  | [] => [[]]
  | c :: r => if c = 46 then [] :: spl r else match spl r with
    | h :: t => (c :: h) :: t
    | [] => [[c]]
theorem spl_ne : ∀ l, spl l ≠ []
  | [] => by simp [spl]
  | c :: r => by
    unfold spl
    split
    · simp
    · split <;> simp
def hd (p : List UInt8) : List (List UInt8) → List (List UInt8)
  | h :: t => (p ++ h) :: t
  | [] => [p]
theorem hd_nil : ∀ {l : List (List UInt8)}, l ≠ [] → hd [] l = l
  | [], h => absurd rfl h
  | h :: t, _ => rfl
theorem spl_dot (r : List UInt8) : spl (46 :: r) = [] :: spl r := by simp [spl]
theorem hd_cons {c : UInt8} (hc : c ≠ 46) (p r : List UInt8) : hd p (spl (c :: r)) = hd (p ++ [c]) (spl r) := by
  simp only [spl, if_neg hc]
  split
  · rename_i h t e; rw [e]; simp [hd]
  · rename_i e; exact absurd e (spl_ne r)
theorem spl_none : ∀ {l : List UInt8}, l.count 46 = 0 → spl l = [l]
  | [], _ => rfl
  | c :: r, h => by
    have hc : c ≠ 46 := by rintro rfl; simp at h
    have hr : r.count 46 = 0 := by rw [List.count_cons] at h; simp [hc] at h; simpa using h
    simp only [spl, if_neg hc, spl_none hr]
theorem spl_first : ∀ {a r : List UInt8}, a.count 46 = 0 → spl (a ++ 46 :: r) = a :: spl r
  | [], r, _ => by simp [spl]
  | c :: a, r, h => by
    have hc : c ≠ 46 := by rintro rfl; simp at h
    have hr : a.count 46 = 0 := by rw [List.count_cons] at h; simp [hc] at h; simpa using h
    have := spl_first (r := r) hr
    simp only [List.cons_append, spl, if_neg hc, this]
theorem spl_len : ∀ (l : List UInt8), (spl l).length = l.count 46 + 1
  | [] => rfl
  | c :: r => by
    have := spl_len r
    by_cases hc : c = 46
    · subst hc; simp [spl, this]
    · rw [List.count_cons]
      simp only [spl, if_neg hc]
      split
      · rename_i h t e; rw [e] at this; simp [hc]; simpa using this
      · rename_i e; exact absurd e (spl_ne r)
def mkBA (l : List UInt8) : ByteArray := ⟨l.toArray⟩
theorem mkBA_data (s : ByteArray) : mkBA s.data.toList = s := by cases s; simp [mkBA]
theorem mkBA_inj {a b : List UInt8} (h : mkBA a = mkBA b) : a = b := by
  simp only [mkBA, ByteArray.mk.injEq] at h
  simpa using congrArg Array.toList h
theorem mkBA_toList (l : List UInt8) : (mkBA l).data.toList = l := by simp [mkBA]
theorem mkBA_size (l : List UInt8) : (mkBA l).size = l.length := by simp [mkBA, ByteArray.size]
def parts (s : ByteArray) : List ByteArray := (spl s.data.toList).map mkBA
/-- What stands ahead of the last dot. -/
def headL : List UInt8 → List UInt8
  | l => Lib.join (spl l).dropLast [46]
theorem join_spl : ∀ (l : List UInt8), Lib.join (spl l) [46] = l
  | [] => by simp [spl, Lib.join_one]
  | c :: r => by
    have ih := join_spl r
    by_cases hc : c = 46
    · subst hc
      rw [spl_dot, Lib.join_cons]
      cases hs : spl r with
      | nil => exact absurd hs (spl_ne r)
      | cons x t =>
        rw [hs, Lib.join_cons] at ih
        simpa [Lib.joinTail] using ih
    · simp only [spl, if_neg hc]
      cases hs : spl r with
      | nil => exact absurd hs (spl_ne r)
      | cons x t =>
        rw [hs, Lib.join_cons] at ih
        simp [Lib.join_cons, ih]
theorem join_snoc (sep : List UInt8) : ∀ (xs : List (List UInt8)) (y : List UInt8), xs ≠ [] → Lib.join (xs ++ [y]) sep = Lib.join xs sep ++ sep ++ y
  | [], _, h => absurd rfl h
  | x :: r, y, _ => by
    rw [List.cons_append, Lib.join_cons, Lib.join_cons]
    have h := Lib.joinTail_take_succ sep (r ++ [y]) r.length y (by simp)
    rw [List.take_of_length_le (by simp), List.take_left] at h
    rw [h]; simp
theorem headL_take {l : List UInt8} {y : List UInt8} (hl : (spl l).getLast? = some y) (h2 : (spl l).length ≠ 1) : headL l = l.take (l.length - y.length - 1) ∧ y.length + 1 ≤ l.length := by
  have e : (spl l).dropLast ++ [y] = spl l := by
    have h9 := List.getLast?_eq_some_iff.1 hl
    obtain ⟨ys, hy⟩ := h9
    rw [hy]; simp
  have hne : (spl l).dropLast ≠ [] := by
    intro h0
    rw [h0] at e
    rw [← e] at h2
    simp at h2
  have h3 := join_snoc [46] (spl l).dropLast y hne
  rw [e, join_spl] at h3
  have h4 : l.length = (Lib.join (spl l).dropLast [46]).length + 1 + y.length := by
    have := congrArg List.length h3
    simp at this
    omega
  refine ⟨?_, by omega⟩
  have : l.take (l.length - y.length - 1) = (Lib.join (spl l).dropLast [46] ++ ([46] ++ y)).take (Lib.join (spl l).dropLast [46]).length := by
    rw [show l.length - y.length - 1 = (Lib.join (spl l).dropLast [46]).length by omega]
    rw [← List.append_assoc, ← h3]
  rw [this, List.take_left, headL]

/-! ### tables -/
def isKeyN (k : Int) : Bool := decide (1 ≤ k ∧ k ≤ 11) || decide (k = 14)
def numericN (k : Int) : Bool := decide (1 ≤ k ∧ k ≤ 13) || decide (k = 16)
def wireN (k : Int) : Int := if (1 ≤ k ∧ k ≤ 7) ∨ k = 16 then 0 else if k = 8 ∨ k = 10 ∨ k = 12 then 5 else if k = 9 ∨ k = 11 ∨ k = 13 then 1 else 2
def kindOk (k : Int) : Bool := decide (1 ≤ k ∧ k ≤ 17)
def sortB (t : List Ty) (i : Int) (e : Bool) : Bool := decide (0 ≤ i) && (match t[i.toNat]? with | some x => x.enum == e | none => false)
def fieldB (t : List Ty) (x : Ty) (f : FT) : Bool :=
  (if f.kind = 16 ∨ f.kind = 17 then sortB t f.ref (decide (f.kind = 16)) else decide (f.ref = 0 ∧ 1 ≤ f.kind ∧ f.kind ≤ 17)) &&
  (decide (0 ≤ f.label ∧ f.label ≤ 5) && (!decide (f.label = 0 ∧ f.kind = 17) && ((!decide (f.label = 3) || numericN f.kind) &&
  ((if f.label = 4 then decide (0 ≤ f.oneof ∧ f.oneof < x.oneofs.length) else decide (f.oneof = 0)) &&
  (if f.label = 5 then isKeyN f.key else decide (f.key = 0))))))
def rsvIn (l : List Rng) (n : Int) : Bool := l.any fun r => decide (r.low ≤ n ∧ n ≤ r.high)
def RsvOk (l : List Rng) : Prop := ∀ (i : Nat) (r : Rng), l[i]? = some r → 1 ≤ r.low ∧ r.high ≤ 536870911 ∧ r.low ≤ r.high ∧ ∀ p : Rng, 0 < i → l[i - 1]? = some p → p.high < r.low
def EnumOk (x : Ty) : Prop := 1 ≤ x.syms.length ∧ x.syms.length ≤ 128 ∧ (∀ s : Sym, x.syms[0]? = some s → s.num = 0) ∧ x.fields.length = 0 ∧ x.oneofs.length = 0 ∧ x.rsv.length = 0 ∧
  (∀ s ∈ x.syms, nameB s.name = true ∧ 0 ≤ s.num ∧ s.num ≤ 2147483647) ∧ (x.syms.map Sym.name).Nodup ∧ (x.syms.map Sym.num).Nodup
def names (x : Ty) : List ByteArray := x.oneofs ++ x.fields.map FT.name
def FieldOk (t : List Ty) (x : Ty) (i : Nat) (f : FT) : Prop := 1 ≤ f.number ∧ f.number ≤ 536870911 ∧ rsvIn x.rsv f.number = false ∧ fieldB t x f = true ∧ ∀ p, 0 < i → x.fields[i - 1]? = some p → p.number < f.number
def MsgOk (t : List Ty) (x : Ty) : Prop := x.syms.length = 0 ∧ x.fields.length ≤ 128 ∧ x.rsv.length ≤ 128 ∧ (∀ n ∈ names x, nameB n = true) ∧ (names x).Nodup ∧ RsvOk x.rsv ∧
  (∀ (i : Nat) (f : FT), x.fields[i]? = some f → FieldOk t x i f) ∧ ∀ i : Nat, i < x.oneofs.length → ∃ f ∈ x.fields, f.label = 4 ∧ f.oneof = i
def headB (s : ByteArray) : ByteArray := mkBA (headL s.data.toList)
def NameOk (l : List Ty) (x : Ty) : Prop := (∀ y ∈ l, y.name ≠ x.name) ∧ (parts x.name).length ≤ (if x.enum then 9 else 8) ∧ (∀ p ∈ parts x.name, nameB p = true) ∧
  ((parts x.name).length = 1 ∨ ∃ y, l.find? (fun y => decide (y.name = headB x.name)) = some y ∧ y.enum = false)
def TyOk (t : List Ty) (x : Ty) : Prop := (x.enum = true → EnumOk x) ∧ (x.enum = false → MsgOk t x)
def GoodT (t : List Ty) : Prop := t.length ≤ 128 ∧ ∀ (i : Nat) (x : Ty), t[i]? = some x → NameOk (t.take i) x ∧ TyOk t x
open Classical in
noncomputable def dec (p : Prop) : Bool := decide p
theorem dec_true {p : Prop} (h : p) : dec p = true := by simp [dec, h]
theorem dec_false {p : Prop} (h : ¬ p) : dec p = false := by simp [dec, h]
theorem dec_iff {p : Prop} : dec p = true ↔ p := by simp [dec]
theorem dec_iffF {p : Prop} : dec p = false ↔ ¬ p := by simp [dec]
theorem dec_is {p : Prop} {b : Bool} (h : b = true ↔ p) : b = dec p := by
  cases b with
  | true => exact (dec_true (h.1 rfl)).symm
  | false => exact (dec_false fun hp => by simpa using h.2 hp).symm

/-! ### how large -/
def okTy (x : Ty) : Prop := x.name.size ≤ 2000000 ∧ x.fields.length ≤ 2000000 ∧ x.oneofs.length ≤ 2000000 ∧ x.syms.length ≤ 2000000 ∧ x.rsv.length ≤ 2000000 ∧
  (∀ f ∈ x.fields, f.name.size ≤ 2000000) ∧ (∀ o ∈ x.oneofs, o.size ≤ 2000000) ∧ ∀ s ∈ x.syms, s.name.size ≤ 2000000
def okT (t : List Ty) : Prop := t.length ≤ 2000000 ∧ ∀ x ∈ t, okTy x

theorem pigeon {α : Type} (p : α → Int) : ∀ (n : Nat) (l : List α), (∀ i : Nat, i < n → ∃ f ∈ l, p f = i) → n ≤ l.length
  | 0, _, _ => by omega
  | n + 1, l, h => by
    obtain ⟨f, hf, hp⟩ := h n (by omega)
    have h1 := pigeon p n (l.filter fun g => decide (p g ≠ n)) (fun i hi => by
      obtain ⟨g, hg, hq⟩ := h i (by omega)
      exact ⟨g, List.mem_filter.2 ⟨hg, by simp; omega⟩, hq⟩)
    have h2 : (l.filter fun g => decide (p g ≠ n)).length < l.length := by
      have h3 := List.length_filter_lt_length_iff_exists (p := fun g => decide (p g ≠ (n : Int))) (l := l)
      exact h3.2 ⟨f, hf, by simp [hp]⟩
    omega
end Go.Proofs.YtmdkcapbahjipaaDoor.Ag
