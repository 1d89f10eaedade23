/- What an operation gives, without memory; each is shown to be what the model does. First those that make no memory. -/
import Derived.Test.YtdlgenppdgkacaaGreatDoorAg4
set_option linter.unusedVariables false
set_option linter.unusedSimpArgs false
namespace Go.Proofs.YtdlgenppdgkacaaGreatDoor.Ag
open Go.RowKit (Below)

/-- The bits' operations as the model has them. -/
def bitOp (op : BinOp) (k : IntKind) (x y : Int) : Int :=
  let a := BitVec.ofInt k.bits x
  let b := BitVec.ofInt k.bits y
  match op with
  | .and => k.wrap (a &&& b).toNat
  | .or => k.wrap (a ||| b).toNat
  | .xor => k.wrap (a ^^^ b).toNat
  | _ => k.wrap (a &&& ~~~b).toNat

def intOp (op : BinOp) (k : IntKind) (a b : Int) : Option IV :=
  match op with
  | .add => some (.int k (k.wrap (a + b)))
  | .sub => some (.int k (k.wrap (a - b)))
  | .mul => some (.int k (k.wrap (a * b)))
  | .quo => if b = 0 then none else some (.int k (k.wrap (a.tdiv b)))
  | .rem => if b = 0 then none else some (.int k (a.tmod b))
  | .and => some (.int k (bitOp .and k a b))
  | .or => some (.int k (bitOp .or k a b))
  | .xor => some (.int k (bitOp .xor k a b))
  | .andNot => some (.int k (bitOp .andNot k a b))
  | .eql => some (.bool (decide (a = b)))
  | .neq => some (.bool (!decide (a = b)))
  | .lss => some (.bool (decide (a < b)))
  | .leq => some (.bool (decide (a ≤ b)))
  | .gtr => some (.bool (decide (b < a)))
  | .geq => some (.bool (decide (b ≤ a)))
  | _ => none

def shfOp (op : BinOp) (k : IntKind) (a b : Int) : Option IV :=
  if b < 0 then none else
  match op with
  | .shl => some (.int k (k.wrap (a * 2 ^ (min b.toNat k.bits))))
  | .shr => some (.int k (a.fdiv (2 ^ (min b.toNat k.bits))))
  | _ => none

def strOp (op : BinOp) (a b : ByteArray) : Option IV :=
  match op with
  | .add => if ((a.size + b.size : Nat) : Int) > IntKind.i64.max then none else some (.str (a ++ b))
  | .eql => some (.bool (a.toList == b.toList))
  | .neq => some (.bool (!(a.toList == b.toList)))
  | .lss => some (.bool (Op.bytesLess a.toList b.toList))
  | .leq => some (.bool (Op.bytesLess a.toList b.toList || a.toList == b.toList))
  | .gtr => some (.bool (!(Op.bytesLess a.toList b.toList || a.toList == b.toList)))
  | .geq => some (.bool (!(Op.bytesLess a.toList b.toList)))
  | _ => none

def bin2 (op : BinOp) : IV → IV → Option IV
  | .int k a, .int k' b => match op with
    | .shl => shfOp .shl k a b
    | .shr => shfOp .shr k a b
    | op => if k = k' then intOp op k a b else none
  | .str a, .str b => strOp op a b
  | .bool a, .bool b => match op with
    | .eql => some (.bool (a == b))
    | .neq => some (.bool (!(a == b)))
    | _ => none
  | _, _ => none

/-- Types at which '==' of two bools is that of bools. -/
def boolType (P : Program) (t : TypeId) : Bool :=
  match P.underlying t with
  | some .bool => true
  | _ => false

theorem run_underlying' {P : Program} {t : TypeId} {d : TypeDesc} (h : P.underlying t = some d) (w : World) : (underlying t).run P w = .ok d w := by
  simp [underlying, h]

theorem run_equal_bool {P : Program} {t : TypeId} (ht : P.underlying t = some .bool) (d : Nat) (a b : Bool) (w : World) : (Op.equalIn (d + 1) t (.bool a) (.bool b)).run P w = .ok (a == b) w := by
  simp only [Op.equalIn, Sem.run_bind, run_underlying' ht, Result.andThen_ok, Sem.run_pure]

theorem bin2_run {P : Program} (op : BinOp) (t : TypeId) (xo yo : Operand) {x y z : IV} {u v : Value} {I : Nat → Prop} {w : World} (hb : ∀ a b, x = .bool a → y = .bool b → P.underlying t = some .bool)
    (hx : Rel I w x u) (hy : Rel I w y v) (h : bin2 op x y = some z) :
    ∃ r, (do eqGuard op t xo yo u v; binOp op t u v : Sem Value).run P w = .ok r w ∧ Rel I w z r := by
  unfold bin2 at h
  split at h
  · rename_i k a k' b
    cases hx; cases hy
    split at h
    · unfold shfOp at h
      split at h
      · cases h
      · rename_i hb
        injection h with h; subst h
        refine ⟨.int _ _, ?_, .int _ _⟩; simp [eqGuard, binOp, Op.shift, hb]
    · unfold shfOp at h
      split at h
      · cases h
      · rename_i hb
        injection h with h; subst h
        refine ⟨.int _ _, ?_, .int _ _⟩; simp [eqGuard, binOp, Op.shift, hb]
    · split at h
      · rename_i hk
        subst hk
        cases op <;> simp only [intOp] at h <;> first
          | cases h; done
          | (injection h with h; subst h; refine ⟨.int _ _, ?_, .int _ _⟩; simp [eqGuard, binOp, Op.intArith]; done)
          | (injection h with h; subst h; refine ⟨.int _ _, ?_, .int _ _⟩; simp only [eqGuard, binOp, Op.intBits, bitOp, Sem.run_bind, Sem.run_ite, Sem.run_pure, if_true, if_false, ne_eq, not_true_eq_false]; rfl)
          | (injection h with h; subst h; refine ⟨.bool _, ?_, .bool _⟩; simp [eqGuard, binOp, Op.intCmp]; done)
          | (injection h with h; subst h; refine ⟨.bool _, ?_, .bool _⟩; simp [eqGuard, binOp, Op.intCmp]; rfl)
          | (split at h; cases h; rename_i hb; injection h with h; subst h; refine ⟨.int _ _, ?_, .int _ _⟩; simp [eqGuard, binOp, Op.intDiv, hb])
      · cases h
  · cases hx; cases hy
    cases op <;> simp only [strOp] at h <;> first
      | cases h; done
      | (injection h with h; subst h; refine ⟨.bool _, ?_, .bool _⟩; simp [eqGuard, binOp, Op.stringOp]; done)
      | (split at h; cases h; rename_i hb; injection h with h; subst h; refine ⟨.string _, ?_, .str _⟩; simp only [eqGuard, binOp, Op.stringOp, hb]; simp [hb])
  · rename_i a b
    cases hx; cases hy
    have ht := hb a b rfl rfl
    have he : (Op.equal t (.bool a) (.bool b)).run P w = .ok (a == b) w := by
      exact run_equal_bool ht 9999 a b w
    cases op <;> simp only at h <;> first
      | cases h; done
      | (injection h with h; subst h; refine ⟨.bool _, ?_, .bool _⟩; simp [eqGuard, binOp, he]; done)
  · cases h

end Go.Proofs.YtdlgenppdgkacaaGreatDoor.Ag
