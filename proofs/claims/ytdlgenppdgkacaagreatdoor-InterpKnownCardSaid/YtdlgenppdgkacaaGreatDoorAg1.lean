/- Values without memory: what a Go value reads as where nobody writes it any more; and how it stands to the model's values. -/
import GoSem.Step
import Derived.Below
import Derived.Calls
import Derived.Tactics
import Derived.KernelRfl
import Derived.Laws.Sem
import Derived.Laws.World
set_option linter.unusedVariables false
set_option linter.unusedSimpArgs false
namespace Go.Proofs.YtdlgenppdgkacaaGreatDoor.Ag

/-- A value that nobody writes any more. 'slice': its elements; 'ref': what a pointer points to; 'nil': the slice nil. -/
inductive IV where
  | bool (b : Bool)
  | int (k : IntKind) (n : Int)
  | str (s : ByteArray)
  | nil
  | slice (xs : List IV)
  | agg (cs : List IV)
  | ref (x : IV)
  | nilp
  | nilfn
  | niliface
  | nilmap
  | iface (t : TypeId) (x : IV)
  | fn (f : Fn) (first captured : List IV)
  | tup (xs : List IV)
  deriving Inhabited

/-- The cells of a value. -/
def IV.cells : IV → List IV
  | .agg cs => cs
  | x => [x]
/-- A value of one cell. -/
def IV.one : IV → Bool
  | .agg _ => false
  | .tup _ => false
  | _ => true
def flat (xs : List IV) : List IV := xs.flatMap IV.cells

/-- How a value stands to the model's value in a world whose blocks 'I' stay as they are. -/
inductive Rel (I : Nat → Prop) (w : World) : IV → Value → Prop
  | bool (b : Bool) : Rel I w (.bool b) (.bool b)
  | int (k : IntKind) (n : Int) : Rel I w (.int k n) (.int k n)
  | str (s : ByteArray) : Rel I w (.str s) (.string s)
  | nil : Rel I w .nil (.slice none 0 0)
  | empty (a : Option Addr) (cap : Nat) : Rel I w (.slice []) (.slice a 0 cap)
  | slice (xs : List IV) (b off cap sz : Nat) (cv : Nat → Value) (hc : xs.length ≤ cap) (hs : ∀ x ∈ xs, x.cells.length = sz) (hI : I b)
      (hm : ∀ (q : Nat) (c : IV), (flat xs)[q]? = some c → w.cell? ⟨b, off + q, none⟩ = some (cv q)) (ho : ∀ (q : Nat) (c : IV), (flat xs)[q]? = some c → c.one = true)
      (hr : ∀ (q : Nat) (c : IV), (flat xs)[q]? = some c → Rel I w c (cv q)) : Rel I w (.slice xs) (.slice (some ⟨b, off, Option.none⟩) xs.length cap)
  | agg (cs : List IV) (vs : Array Value) (hn : vs.size = cs.length) (ho : ∀ c ∈ cs, IV.one c = true)
      (hr : ∀ (q : Nat) (c : IV) (v : Value), cs[q]? = some c → vs[q]? = some v → Rel I w c v) : Rel I w (.agg cs) (.agg vs)
  | ref (x : IV) (b off : Nat) (cv : Nat → Value) (hI : I b) (hm : ∀ (q : Nat) (c : IV), x.cells[q]? = some c → w.cell? ⟨b, off + q, none⟩ = some (cv q))
      (ho : ∀ c ∈ x.cells, IV.one c = true) (hr : ∀ (q : Nat) (c : IV), x.cells[q]? = some c → Rel I w c (cv q)) : Rel I w (.ref x) (.pointer (some ⟨b, off, none⟩))
  | nilp : Rel I w .nilp (.pointer none)
  | nilfn : Rel I w .nilfn .nilFunc
  | niliface : Rel I w .niliface .nilIface
  | nilmap : Rel I w .nilmap (.map none)
  | iface (t : TypeId) (x : IV) (v : Value) (hr : Rel I w x v) : Rel I w (.iface t x) (.iface t v)
  | fn (f : Fn) (fs cs : List IV) (vf vc : Array Value) (hf : vf.size = fs.length) (hc : vc.size = cs.length)
      (hrf : ∀ (q : Nat) (c : IV) (v : Value), fs[q]? = some c → vf[q]? = some v → Rel I w c v) (hrc : ∀ (q : Nat) (c : IV) (v : Value), cs[q]? = some c → vc[q]? = some v → Rel I w c v) : Rel I w (.fn f fs cs) (.func f vf vc)
  | tup (xs : List IV) (vs : Array Value) (hn : vs.size = xs.length)
      (hr : ∀ (q : Nat) (c : IV) (v : Value), xs[q]? = some c → vs[q]? = some v → Rel I w c v) : Rel I w (.tup xs) (.tuple vs)

/-- What stays: more blocks are fixed, and those that were are as they were. -/
structure Stays (I : Nat → Prop) (w : World) (I' : Nat → Prop) (w' : World) : Prop where
  sub : ∀ b, I b → I' b
  same : ∀ b, I b → w'.heap[b]? = w.heap[b]?

theorem Stays.refl (I : Nat → Prop) (w : World) : Stays I w I w := ⟨fun _ h => h, fun _ _ => rfl⟩
theorem Stays.trans {I I' I'' : Nat → Prop} {w w' w'' : World} (h : Stays I w I' w') (k : Stays I' w' I'' w'') : Stays I w I'' w'' :=
  ⟨fun b hb => k.sub b (h.sub b hb), fun b hb => (k.same b (h.sub b hb)).trans (h.same b hb)⟩
theorem Stays.cell {I I' : Nat → Prop} {w w' : World} (h : Stays I w I' w') {b o : Nat} (hb : I b) : w'.cell? ⟨b, o, none⟩ = w.cell? ⟨b, o, none⟩ := by
  simp [World.cell?, h.same b hb]

theorem Rel.stays {I I' : Nat → Prop} {w w' : World} (h : Stays I w I' w') {x : IV} {v : Value} (r : Rel I w x v) : Rel I' w' x v := by
  induction r with
  | bool b => exact .bool b
  | int k n => exact .int k n
  | str s => exact .str s
  | nil => exact .nil
  | empty a cap => exact .empty a cap
  | slice xs b off cap sz cv hc hs hI hm ho hr ih => exact .slice xs b off cap sz cv hc hs (h.sub b hI) (fun q c hq => (h.cell hI).trans (hm q c hq)) ho ih
  | agg cs vs hn ho hr ih => exact .agg cs vs hn ho ih
  | ref x b off cv hI hm ho hr ih => exact .ref x b off cv (h.sub b hI) (fun q c hq => (h.cell hI).trans (hm q c hq)) ho ih
  | nilp => exact .nilp
  | nilfn => exact .nilfn
  | niliface => exact .niliface
  | nilmap => exact .nilmap
  | iface t x v hr ih => exact .iface t x v ih
  | fn f fs cs vf vc hf hc hrf hrc ihf ihc => exact .fn f fs cs vf vc hf hc ihf ihc
  | tup xs vs hn hr ih => exact .tup xs vs hn ih

/-- nil is an empty slice, too. -/
theorem Rel.weakNil {I : Nat → Prop} {w : World} {v : Value} (h : Rel I w .nil v) : Rel I w (.slice []) v := by
  cases h; exact .empty none 0

theorem Rel.oneCell {I : Nat → Prop} {w : World} {x : IV} {v : Value} (r : Rel I w x v) (h : x.one = true) : v.cells = #[v] ∧ v.oneCell' = true := by
  cases r <;> first | exact ⟨rfl, rfl⟩ | simp [IV.one] at h

end Go.Proofs.YtdlgenppdgkacaaGreatDoor.Ag
