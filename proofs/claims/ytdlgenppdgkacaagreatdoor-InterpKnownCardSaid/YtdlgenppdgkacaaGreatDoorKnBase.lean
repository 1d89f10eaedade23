/- strings.Count, Index (at one byte), Join over values; the evaluator's base. -/
import Derived.Test.YtdlgenppdgkacaaGreatDoorKnShelf
import Derived.Test.YtdlgenppdgkacaaGreatDoorAgV
set_option linter.unusedVariables false
namespace Go.Proofs.YtdlgenppdgkacaaGreatDoor.Ag
open Go.RowKit (Below)
def oneByte (s : ByteArray) : Option UInt8 := match s with
  | ⟨⟨[c]⟩⟩ => some c
  | _ => none
theorem oneByte_inv {s : ByteArray} {c : UInt8} (h : oneByte s = some c) : s = ⟨#[c]⟩ := by
  unfold oneByte at h
  split at h
  · injection h with h; subst h; rfl
  · cases h
def unStrs : List IV → Option (List ByteArray)
  | [] => some []
  | .str s :: l => match unStrs l with
    | some xs => some (s :: xs)
    | none => none
  | _ :: _ => none
theorem unStrs_inv : ∀ {l : List IV} {xs : List ByteArray}, unStrs l = some xs → l = xs.map .str
  | [], xs, h => by simp [unStrs] at h; subst h; rfl
  | .str s :: l, xs, h => by
    simp only [unStrs] at h
    split at h
    · rename_i ys hy
      injection h with h; subst h
      simp [unStrs_inv hy]
    · cases h
def joinF (xs : List ByteArray) (sep : ByteArray) : ByteArray := ⟨(Lib.join (xs.map (·.data.toList)) sep.data.toList).toArray⟩
/-- What leaves the world as it is. -/
theorem FC.plain {P : Program} {f : FuncId} {args : List IV} {x : IV} (vs0 : Array Value) (hv : ∀ I w (vs : Array Value), vs.size = args.length → (∀ (q : Nat) (c : IV) (v : Value), args[q]? = some c → vs[q]? = some v → Rel I w c v) → vs = vs0) (v : Value) (hx : ∀ I w, Rel I w x v)
    (h : ∀ w, Calls P f vs0 w fun e w' => e = .returned v ∧ w' = w) : FC P f args (· = x) := by
  intro I w vs hI hsz hr
  rw [hv I w vs hsz hr]
  refine (h w).mono ?_
  rintro e w' ⟨rfl, rfl⟩
  exact ⟨v, rfl, I, x, rfl, hx _ _, Below.refl _ _, fun _ h => h, fun _ h => .inl h, hI⟩
theorem two_strs {a b : ByteArray} {I : Nat → Prop} {w : World} {vs : Array Value} (hsz : vs.size = [IV.str a, IV.str b].length) (hr : ∀ (q : Nat) (c : IV) (v : Value), [IV.str a, IV.str b][q]? = some c → vs[q]? = some v → Rel I w c v) : vs = #[.string a, .string b] := by
  obtain ⟨l⟩ := vs
  match l, hsz with
  | [u, v], _ =>
    have h0 := hr 0 _ u rfl (by simp)
    have h1 := hr 1 _ v rfl (by simp)
    cases h0; cases h1; rfl
theorem count_fc (s : ByteArray) (c : UInt8) : FC Tryz.prog 305 [.str s, .str ⟨#[c]⟩] (· = .int .i64 (Lib.countByte s.data.toList c)) :=
  .plain _ (fun _ _ _ h1 h2 => two_strs h1 h2) _ (fun _ _ => .int _ _) fun w => Tryz.strings_Count_one s c w
theorem index_fc (s : ByteArray) (c : UInt8) : FC Tryz.prog 306 [.str s, .str ⟨#[c]⟩] (· = .int .i64 (Lib.indexByte s.data.toList c)) :=
  .plain _ (fun _ _ _ h1 h2 => two_strs h1 h2) _ (fun _ _ => .int _ _) fun w => Tryz.strings_Index_one s c w
theorem flat_strs : ∀ (xs : List ByteArray), flat (xs.map IV.str) = xs.map IV.str
  | [] => rfl
  | x :: l => by have := flat_strs l; simp [flat, IV.cells] at this ⊢; exact this
theorem join_fc (xs : List ByteArray) (sep : ByteArray) (hn : xs.length ≤ 140737488355328) (hl : (Lib.join (xs.map (·.data.toList)) sep.data.toList).length ≤ 140737488355328) :
    FC Tryz.prog 245 [.slice (xs.map .str), .str sep] (· = .str (joinF xs sep)) := by
  intro I w vs hI hsz hr
  obtain ⟨l⟩ := vs
  match l, hsz with
  | [u, v], _ =>
    have h0 := hr 0 _ u rfl (by simp)
    have h1 := hr 1 _ v rfl (by simp)
    cases h1
    generalize hy : xs.map IV.str = ys at h0
    cases h0 with
    | empty a cap =>
      obtain rfl : xs = [] := by simpa using hy
      refine (Tryz.strings_Join_none a cap sep w).mono ?_
      rintro e w' ⟨rfl, rfl⟩
      exact ⟨_, rfl, I, _, rfl, .str _, Below.refl _ _, fun _ h => h, fun _ h => .inl h, hI⟩
    | slice _ b off cap sz cv hc hs hb hm ho hr2 =>
      subst hy
      have hm' : ∀ (k : Nat) x, xs[k]? = some x → w.cell? ⟨b, off + k, none⟩ = some (.string x) := by
        intro k x hk
        have hf : (flat (xs.map IV.str))[k]? = some (.str x) := by rw [flat_strs]; simp [hk]
        have h3 := hr2 k _ hf
        have h4 := hm k _ hf
        rw [h4]
        generalize cv k = z at h3
        cases h3; rfl
      rw [List.length_map]
      refine (Tryz.strings_Join b off cap xs sep w hm' (hI b hb) hn (by simpa using hc) hl).mono ?_
      rintro e w' ⟨rfl, hbl⟩
      exact ⟨_, rfl, I, _, rfl, .str _, hbl, fun _ h => h, fun _ h => .inl h, fun b hb => Nat.lt_of_lt_of_le (hI b hb) hbl.size⟩
def joinB (xs : List IV) (sep : ByteArray) : Option IV := match unStrs xs with
  | some ss => if ss.length ≤ 1000000 ∧ (Lib.join (ss.map (·.data.toList)) sep.data.toList).length ≤ 1000000 then some (.str (joinF ss sep)) else none
  | none => none
def libBase : Base := fun f ys => match ys with
  | [.str s, .str sep] => match oneByte sep with
    | some c => if f = 305 then some (.int .i64 (Lib.countByte s.data.toList c)) else if f = 306 then some (.int .i64 (Lib.indexByte s.data.toList c)) else none
    | none => none
  | [.slice xs, .str sep] => if f = 245 then joinB xs sep else none
  | _ => none
theorem libBase_ok : BaseOk Tryz.prog libBase := by
  intro f ys x h
  unfold libBase at h
  split at h
  · rename_i s sep
    split at h
    · rename_i c hc
      have := oneByte_inv hc; subst this
      split at h
      · rename_i hf; subst hf; injection h with h; subst h
        exact ⟨by kernel_rfl, count_fc s c⟩
      · split at h
        · rename_i hf; subst hf; injection h with h; subst h
          exact ⟨by kernel_rfl, index_fc s c⟩
        · cases h
    · cases h
  · rename_i xs sep
    split at h
    · rename_i hf; subst hf
      unfold joinB at h
      split at h
      · rename_i ss hss
        have := unStrs_inv hss; subst this
        split at h
        · rename_i hk
          injection h with h; subst h
          exact ⟨by kernel_rfl, join_fc ss sep (by omega) (by omega)⟩
        · cases h
      · cases h
    · cases h
  · cases h
end Go.Proofs.YtdlgenppdgkacaaGreatDoor.Ag
