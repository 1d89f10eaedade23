/- From a row to a walk: what an argument that has been read is, without memory. -/
import Derived.Test.YtmdkcapbahjipaaDoorAg16
import Derived.SizedLaws
import Derived.ChangeSlices
import Derived.ChangeOld
import Derived.WideShapes
import Derived.ChangeShapes
set_option linter.unusedVariables false
set_option linter.unusedSimpArgs false
namespace Go.Proofs.YtmdkcapbahjipaaDoor.Ag
open Go.RowKit (Below)
open Go.ChangeShapes Go.WideShapes

theorem FC.walk {P : Program} {f : FuncId} {args : List IV} (h : FC P f args (· = .bool true)) (W : World) (vs : Array Value) (hn : vs.size = args.length)
    (hr : ∀ (q : Nat) (c : IV) (v : Value), args[q]? = some c → vs[q]? = some v → Rel (fun b => b < W.heap.size) W c v) :
    Calls P f vs W fun e w' => e = .returned (.bool true) ∧ Below W.heap.size W w' := by
  refine (h (fun b => b < W.heap.size) W vs (fun b hb => hb) hn hr).mono ?_
  rintro e w' ⟨v, rfl, I', r, rfl, hrel, hb, _, _, _⟩
  cases hrel
  exact ⟨rfl, hb⟩

def Rels (I : Nat → Prop) (w : World) : List IV → List Value → Prop
  | [], [] => True
  | c :: cs, v :: vs => Rel I w c v ∧ Rels I w cs vs
  | _, _ => False
theorem rels_list {I : Nat → Prop} {w : World} : ∀ {cs : List IV} {vs : List Value}, Rels I w cs vs → vs.length = cs.length ∧ ∀ (q : Nat) (c : IV) (v : Value), cs[q]? = some c → vs[q]? = some v → Rel I w c v
  | [], [], _ => ⟨rfl, fun q c v h => by simp at h⟩
  | c :: cs, v :: vs, h => by
    obtain ⟨h1, h2⟩ := h
    obtain ⟨h3, h4⟩ := rels_list h2
    refine ⟨by simp [h3], fun q c' v' g1 g2 => ?_⟩
    cases q with
    | zero => simp at g1 g2; subst g1; subst g2; exact h1
    | succ q => exact h4 q c' v' (by simpa using g1) (by simpa using g2)
  | [], _ :: _, h => h.elim
  | _ :: _, [], h => h.elim
theorem FC.walks {P : Program} {f : FuncId} {args : List IV} (h : FC P f args (· = .bool true)) (W : World) (vs : List Value) (hr : Rels (fun b => b < W.heap.size) W args vs) :
    Calls P f vs.toArray W fun e w' => e = .returned (.bool true) ∧ Below W.heap.size W w' :=
  h.walk W vs.toArray (by simpa using (rels_list hr).1) (fun q c v h1 h2 => (rels_list hr).2 q c v h1 (by simpa using h2))

section
variable {H : Type} {enc : TypeId × Value → H} {P : Program} {W : World}
end
end Go.Proofs.YtmdkcapbahjipaaDoor.Ag
