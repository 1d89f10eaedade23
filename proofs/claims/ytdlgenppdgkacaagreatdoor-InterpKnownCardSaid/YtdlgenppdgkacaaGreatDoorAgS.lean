/- Equality of two structs of plain fields. -/
import Derived.Test.YtdlgenppdgkacaaGreatDoorAg7
import Derived.Laws.StructEq
set_option linter.unusedVariables false
set_option linter.unusedSimpArgs false
namespace Go.Proofs.YtdlgenppdgkacaaGreatDoor.Ag
inductive SK where
  | int
  | str
  | bool
def sKind (P : Program) (t : TypeId) : Option SK := match P.underlying t with
  | some (.int _) => some .int
  | some .string => some .str
  | some .bool => some .bool
  | _ => none
def flatKinds (P : Program) : Nat → List Field → Option (List SK)
  | _, [] => some []
  | off, f :: fs => if f.name ≠ "_" then if f.offset = off then match sKind P f.type, flatKinds P (off + 1) fs with
      | some k, some r => some (k :: r)
      | _, _ => none
    else none
    else none
def structKinds (P : Program) (t : TypeId) : Option (List SK) := match P.underlying t with
  | some (.struct fs) => if P.stoodInHeld t then none else if P.eqGuardType P.depth t then none else flatKinds P 0 fs.toList
  | _ => none
def eqOf : BinOp → Option Bool
  | .eql => some false
  | .neq => some true
  | _ => none
/-- Are two structs of plain fields alike? -/
def eqAgg : List SK → List IV → List IV → Option Bool
  | [], [], [] => some true
  | .int :: ks, .int k a :: l, .int k' b :: r => if k = k' then match eqAgg ks l r with
      | some q => some ((a == b) && q)
      | none => none
    else none
  | .str :: ks, .str a :: l, .str b :: r => match eqAgg ks l r with
    | some q => some ((a.toList == b.toList) && q)
    | none => none
  | .bool :: ks, .bool a :: l, .bool b :: r => match eqAgg ks l r with
    | some q => some ((a == b) && q)
    | none => none
  | _, _, _ => none
def eqs (ng : Bool) (ks : List SK) : IV → IV → Option IV
  | .agg l, .agg r => match eqAgg ks l r with
    | some q => some (.bool (if ng then !q else q))
    | none => none
  | _, _ => none

def plainD : TypeDesc → Bool
  | .struct _ => false
  | .array _ _ => false
  | _ => true
theorem run_part1 {P : Program} {t : TypeId} {u : TypeDesc} (hu : P.underlying t = some u) (ha : plainD u = true) {vs : Array Value} {off : Nat} {v : Value} (h : vs[off]? = some v) (w : World) :
    (part t vs off).run P w = .ok v w := by
  have hag : aggIs P t false := ⟨u, hu, by cases u <;> simp_all [plainD]⟩
  simp [part, run_isAgg hag, h]

theorem eqFields_run {P : Program} {I : Nat → Prop} {w : World} (d : Nat) {xs ys : Array Value} : ∀ (fs : List Field) (ks : List SK) (off : Nat) (l r : List IV) (b : Bool),
    flatKinds P off fs = some ks → eqAgg ks l r = some b → (∀ (q : Nat) (c : IV), l[q]? = some c → ∃ v, xs[off + q]? = some v ∧ Rel I w c v) → (∀ (q : Nat) (c : IV), r[q]? = some c → ∃ v, ys[off + q]? = some v ∧ Rel I w c v) →
    (Op.eqFields (d + 1) xs ys fs).run P w = .ok b w := by
  intro fs
  induction fs with
  | nil =>
    intro ks off l r b hk he hl hr
    simp only [flatKinds, Option.some.injEq] at hk; subst hk
    cases l <;> cases r <;> simp [eqAgg] at he
    subst he
    simp [Op.eqFields]
  | cons f fs ih =>
    intro ks off l r b hk he hl hr
    unfold flatKinds at hk
    split at hk
    · rename_i hnm
      split at hk
      · rename_i hoff
        split at hk
        · rename_i k kr hsk hfk
          injection hk with hk; subst hk
          have step : ∀ (c c' : IV) (l' r' : List IV) (b1 b2 : Bool), l = c :: l' → r = c' :: r' → eqAgg kr l' r' = some b2 →
              (∀ v v', Rel I w c v → Rel I w c' v' → (∃ u, P.underlying f.type = some u ∧ plainD u = true) ∧ (Op.equalIn (d + 1) f.type v v').run P w = .ok b1 w) →
              (Op.eqFields (d + 1) xs ys (f :: fs)).run P w = .ok (b1 && b2) w := by
            rintro c c' l' r' b1 b2 rfl rfl h2 h1
            obtain ⟨v, hv, rv⟩ := hl 0 c rfl
            obtain ⟨v', hv', rv'⟩ := hr 0 c' rfl
            obtain ⟨⟨u, hu, hua⟩, h1⟩ := h1 v v' rv rv'
            rw [Nat.add_zero, ← hoff] at hv hv'
            have hrest := ih kr (off + 1) l' r' b2 hfk h2
              (fun q c hq => by have := hl (q + 1) c (by simpa using hq); rwa [show off + (q + 1) = off + 1 + q by omega] at this)
              (fun q c hq => by have := hr (q + 1) c (by simpa using hq); rwa [show off + (q + 1) = off + 1 + q by omega] at this)
            simp only [Op.eqFields, hnm, if_true, ne_eq, not_false_eq_true, Sem.run_bind, run_part1 hu hua hv, run_part1 hu hua hv', Result.andThen_ok, h1, Sem.run_ite]
            cases b1 <;> simp [hrest]
          unfold eqAgg at he
          split at he
          · cases he <;> rename_i h <;> cases h
          · rename_i ks' k1 a l' k2 b' r' heq
            injection heq with e1 e2; subst e1; subst e2
            split at he
            · rename_i hkk; subst hkk
              split at he
              · rename_i q hq
                injection he with he; subst he
                refine step _ _ l' r' (a == b') q rfl rfl hq ?_
                intro v v' h1 h2
                cases h1; cases h2
                unfold sKind at hsk
                split at hsk
                · rename_i k0 hu
                  exact ⟨⟨_, hu, rfl⟩, run_equalIn_int w d f.type k1 k0 a b' hu⟩
                all_goals simp at hsk
              · cases he
            · cases he
          · rename_i ks' a l' b' r' heq
            injection heq with e1 e2; subst e1; subst e2
            split at he
            · rename_i q hq
              injection he with he; subst he
              refine step _ _ l' r' (a.toList == b'.toList) q rfl rfl hq ?_
              intro v v' h1 h2
              cases h1; cases h2
              unfold sKind at hsk
              split at hsk
              · simp at hsk
              · rename_i hu
                exact ⟨⟨_, hu, rfl⟩, run_equalIn_string w d f.type a b' hu⟩
              all_goals simp at hsk
            · cases he
          · rename_i ks' a l' b' r' heq
            injection heq with e1 e2; subst e1; subst e2
            split at he
            · rename_i q hq
              injection he with he; subst he
              refine step _ _ l' r' (a == b') q rfl rfl hq ?_
              intro v v' h1 h2
              cases h1; cases h2
              unfold sKind at hsk
              split at hsk
              · simp at hsk
              · simp at hsk
              · rename_i hu
                exact ⟨⟨_, hu, rfl⟩, run_equalIn_bool' w d f.type a b' hu⟩
              · simp at hsk
            · cases he
          · cases he
        · cases hk
      · cases hk
    · cases hk

theorem eqs_run {P : Program} {op : BinOp} {ng : Bool} {t : TypeId} {ks : List SK} (hop : eqOf op = some ng) (hk : structKinds P t = some ks) (xo yo : Operand) {x y z : IV} {u v : Value} {I : Nat → Prop} {w : World}
    (hx : Rel I w x u) (hy : Rel I w y v) (h : eqs ng ks x y = some z) :
    ∃ r, (do eqGuard op t xo yo u v; binOp op t u v : Sem Value).run P w = .ok r w ∧ Rel I w z r := by
  unfold eqs at h
  split at h
  · rename_i l r
    split at h
    · rename_i q hq
      injection h with h; subst h
      cases hx with
      | agg _ xs hnx hox hrx =>
      cases hy with
      | agg _ ys hny hoy hry =>
      unfold structKinds at hk
      split at hk
      · rename_i fs hu
        split at hk
        · cases hk
        · rename_i hs
          split at hk
          · cases hk
          · rename_i hg
            have hfo : P.fieldsOf t = fs := by simp [Program.fieldsOf, hu]
            have hat : ∀ {l : List IV} {xs : Array Value}, xs.size = l.length → (∀ (q : Nat) (c : IV) (v : Value), l[q]? = some c → xs[q]? = some v → Rel I w c v) → ∀ (q : Nat) (c : IV), l[q]? = some c → ∃ v, xs[0 + q]? = some v ∧ Rel I w c v := by
              intro l xs hn hr q c hq
              have hlt := (List.getElem?_eq_some_iff.1 hq).1
              refine ⟨xs[q]'(by omega), by simp [hn, hlt], hr q c _ hq (by simp [hn, hlt])⟩
            have he := eqFields_run 9998 fs.toList ks 0 l r q hk hq (hat hnx hrx) (hat hny hry)
            have hp : P.stoodInHeld t = false := by simpa using hs
            have h0 := run_equalIn_struct w 9999 t xs ys (by rw [hfo]; exact hu) hp
            rw [hfo, he] at h0
            have hge := run_eqGuard_agg (P := P) w op t xo yo xs ys (by simpa using hg)
            cases op <;> simp [eqOf] at hop <;> subst hop
            · refine ⟨.bool q, ?_, .bool _⟩
              simp only [Sem.run_bind, hge, Result.andThen_ok, run_eql_struct, h0]
            · refine ⟨.bool (!q), ?_, .bool _⟩
              simp only [Sem.run_bind, hge, Result.andThen_ok, run_neq_struct, h0]
      · cases hk
    · cases h
  · cases h
theorem ok_eqs {P : Program} {N : Nat} {s : St} {d : Option Tmp} {ty : TypeId} {ps : String} {af : Array Edge} {g : Option (Nat × Bool)} {op : BinOp} {t t2 : TypeId} {x y : Operand} {x' y' : AOpd} {a b z : IV} {ng : Bool} {ks : List SK} (tx : trOpd x = some x') (tyy : trOpd y = some y')
    (hx : ev s.ρ x' = some (.iv a)) (hy : ev s.ρ y' = some (.iv b)) (hop : eqOf op = some ng) (hk : structKinds P t = some ks) (h : eqs ng ks a b = some z) :
    OpOk P N ⟨d, .binOp op t x y t2, ty, ps, af, g⟩ s (.iv z) s.σ := by
  refine .pure fun K w0 w hs => ?_
  have h1 := ev_rel hs tx hx
  have h2 := ev_rel hs tyy hy
  cases h1 with
  | iv _ _ h1 =>
  cases h2 with
  | iv _ _ h2 =>
  obtain ⟨r, hr, hz⟩ := eqs_run hop hk x y h1 h2 h
  refine ⟨r, ?_, .iv _ _ hz⟩
  simp only [execOp, Sem.run_bind] at hr ⊢
  rw [hr]
  rfl
end Go.Proofs.YtdlgenppdgkacaaGreatDoor.Ag
