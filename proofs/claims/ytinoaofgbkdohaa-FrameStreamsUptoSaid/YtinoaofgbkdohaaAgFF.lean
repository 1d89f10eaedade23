/- Ranges over a function: a function's code inside a fence, with statements that are walked by other laws. -/
import Derived.Test.YtinoaofgbkdohaaAg16
import Derived.RangeFuncRecord
import Derived.OrdersIn
import Derived.Sort.LoopGhostIn
set_option linter.unusedVariables false
set_option linter.unusedSimpArgs false
namespace Go.Proofs.Ytinoaofgbkdohaa.Ag
open Go.RowKit (Below)

def Fr (ro : Option Nat) : Fence := { Fence.wide with round := ro }
theorem callsFr {ro : Option Nat} {n : Nat} {P : Program} {f : FuncId} {args : Array Value} {w : World} {R : Ending → World → Prop} (h : Calls P f args w R) : CallsIn (Fr ro) n P f args w R :=
  (callsIn_wide (n := n)).2 h
theorem noDepth {ro : Option Nat} {n : Nat} : (Fr ro).depth.isSome = true → 1 ≤ n := fun h => by simp [Fr, Fence.wide] at h
theorem rowsFr {ro : Option Nat} {n : Nat} {P : Program} {row : String} {args : Array Value} {w : World} {R : Value → World → Prop} (h : Rows P row args w R) : RowsIn (Fr ro) n P row args w R := by
  intro c cs _
  obtain ⟨v, w', h1, h2⟩ := h c cs
  exact ⟨v, w', h1, stepsIn_wide.2 h2⟩
def noDefer (o : Oper) : Prop := ∀ c, o.op ≠ .defer c
theorem op_in {ro : Option Nat} {n : Nat} {P : Program} {o : Oper} {a : Act} {w : World} {K K' : Act → World → Prop} {Q : Exit → Act → World → Prop} (hd : noDefer o) (hK : ∀ a w, K a w → K' a w) (h : o.wp P a w K Q) :
    o.wpIn (Fr ro) n P a w K' Q := by
  refine ⟨fun _ _ => trivial, ?_⟩
  rw [Oper.semAt_eq _ _ _ hd]
  unfold Oper.wp at h
  generalize (execOp a.eval o).run P w = r at h ⊢
  cases r with
  | ok x w' =>
    cases x with
    | value v => exact hK _ _ h
    | skip => exact hK _ _ h
    | defer d => exact hK _ _ h
    | enter f args =>
      refine ⟨noDepth, (callsFr h).mono ?_⟩
      rintro e w'' he
      cases e with
      | returned v => exact hK _ _ he
      | panicked c => exact he
      | outgrown => exact he
    | row r args => exact ⟨noDepth, (rowsFr h).mono fun v w'' he => hK _ _ he⟩
    | _ => exact h.elim
  | halt x w' => cases x <;> first | exact h | exact h.elim
theorem list_in {ro : Option Nat} {n : Nat} {P : Program} {ops : Array Oper} {Q : Exit → Act → World → Prop} (hQ : ¬ LetsOut Q) : ∀ {l : List Oper} {a : Act} {w : World}, (∀ o ∈ l, noDefer o) → wpList P ops Q l a w → wpListIn (Fr ro) n P ops Q l a w
  | [], a, w, hd, h => h
  | o :: l, a, w, hd, h => by
    unfold wpList at h
    unfold wpListIn
    split
    · rename_i hw
      rw [if_pos hw] at h
      rcases h with h | h
      · exact op_in (hd o (by simp)) (fun a w h => list_in hQ (fun o ho => hd o (by simp [ho])) h) h
      · exact absurd h.2 hQ
    · rename_i hw
      rw [if_neg hw] at h
      exact ⟨fun _ _ => trivial, list_in hQ (fun o ho => hd o (by simp [ho])) h⟩
theorem any_in {ro : Option Nat} {n : Nat} {P : Program} {ops : Array Oper} {Q : Exit → Act → World → Prop} (hQ : ¬ LetsOut Q) (hd : ∀ (i : Nat) (o : Oper), ops[i]? = some o → noDefer o) : ∀ {fuel : Nat} {listed : Array Bool} {a : Act} {w : World},
    wpAny P .any ops Q fuel listed a w → wpAnyIn (Fr ro) n P .any ops Q fuel listed a w
  | 0, listed, a, w, h => h
  | fuel + 1, listed, a, w, h => by
    refine ⟨h.1, fun i hi => ?_⟩
    have h1 := h.2 i hi
    unfold wpOp at h1
    unfold wpOpIn
    split
    · rename_i ho
      simp only [ho] at h1
      exact any_in hQ hd h1
    · rename_i o ho
      simp only [ho] at h1
      split
      · rename_i hw
        rw [if_pos hw] at h1
        rcases h1 with h1 | h1
        · exact op_in (hd i o ho) (fun a w h => any_in hQ hd h) h1
        · exact absurd h1.2 hQ
      · rename_i hw
        rw [if_neg hw] at h1
        exact ⟨fun _ _ => trivial, any_in hQ hd h1⟩

theorem trIns_noDefer {P : Program} {N : Nat} {ops : Array Oper} {ch : Nat} {o : Oper} {i : AIns} (h : trIns P N ops ch o = some i) : noDefer o := by
  intro c hc
  unfold trIns at h
  split at h
  · split at h
    · rename_i ao hao
      obtain ⟨d, op, ty, ps, af, g⟩ := o
      simp only at hc; subst hc
      simp [trOp] at hao
    · cases h
  · cases h
theorem trAll_noDefer {P : Program} {N : Nat} {ops : Array Oper} {l : List Oper} {ch : List Nat} {is : List AIns} (h : trAll P N ops ch l = some is) : ∀ o ∈ l, noDefer o := by
  intro o ho
  obtain ⟨i, hi⟩ := List.getElem?_of_mem ho
  obtain ⟨x, c, _, h1⟩ := (trAll_len h).2 i o hi
  exact trIns_noDefer h1

theorem Evo.toE {X : Nat → Prop} {K K' : Kr} {σ σ' : Slots} {w w' : World} (h : Evo K σ w K' σ' w') : EvoE X K σ w K' σ' w' := ⟨h.le, h.os, h.tape, h.output, h.size, fun b h1 h2 _ => h.rest b h1 h2, h.newI, h.newO⟩
theorem EvoE.toEvo {K K' : Kr} {σ σ' : Slots} {w w' : World} (h : EvoE (fun _ => False) K σ w K' σ' w') : Evo K σ w K' σ' w' := ⟨h.le, h.os, h.tape, h.output, h.size, fun b h1 h2 => h.rest b h1 h2 id, h.newI, h.newO⟩
theorem EvoE.trans {X : Nat → Prop} {K K' K'' : Kr} {σ σ' σ'' : Slots} {w w' w'' : World} (h : EvoE X K σ w K' σ' w') (h' : EvoE X K' σ' w' K'' σ'' w'') : EvoE X K σ w K'' σ'' w'' := by
  refine ⟨h.le.trans h'.le, h'.os.trans h.os, h'.tape.trans h.tape, h'.output.trans h.output, Nat.le_trans h.size h'.size, ?_, ?_, ?_⟩
  · intro b hb hn hx
    have h1 := h.rest b hb hn hx
    refine (h'.rest b (Nat.lt_of_lt_of_le hb h.size) ?_ hx).trans h1
    intro ho
    rcases h.newO b ho with h2 | h2
    · exact hn h2
    · omega
  · intro b hb
    rcases h'.newI b hb with h1 | h1 | h1
    · exact h.newI b h1
    · exact .inr (h.newO b h1)
    · exact .inr (.inr (Nat.le_trans h.size h1))
  · intro b hb
    rcases h'.newO b hb with h1 | h1
    · exact h.newO b h1
    · exact .inr (Nat.le_trans h.size h1)
theorem Odd.evo {X : Nat → Prop} {K K' : Kr} {σ σ' : Slots} {w w' : World} {b : Nat} (h : Odd K σ w b) (e : EvoE X K σ w K' σ' w') : Odd K' σ' w' b := by
  refine ⟨Nat.lt_of_lt_of_le h.1 e.size, fun hI => ?_, fun hO => ?_⟩
  · rcases e.newI b hI with h1 | h1 | h1
    · exact h.2.1 h1
    · exact h.2.2 h1
    · have := h.1; omega
  · rcases e.newO b hO with h1 | h1
    · exact h.2.2 h1
    · have := h.1; omega
theorem Odd.same {X : Nat → Prop} {K K' : Kr} {σ σ' : Slots} {w w' : World} {b : Nat} (h : Odd K σ w b) (hx : ¬ X b) (e : EvoE X K σ w K' σ' w') : w'.heap[b]? = w.heap[b]? := e.rest b h.1 h.2.2 hx
theorem Prm.At.evo {p : Prm} {K K' : Kr} {σ σ' : Slots} {w w' : World} (h : p.At K σ w) (e : Evo K σ w K' σ' w') : p.At K' σ' w' :=
  ⟨fun b hb => (h.1 b hb).evo (X := fun _ => False) e.toE, p.mono K w K' w' e.le (fun b hb => e.rest b (h.1 b hb).1 (h.1 b hb).2.2) h.2⟩
theorem Mk.evo {X : Nat → Prop} {K K' : Kr} {σ σ' : Slots} {w w' : World} {n0 D : Nat} (h : Mk K σ w n0 D) (hX : ∀ b, X b → b < n0) (e : EvoE X K σ w K' σ' w') : Mk K' σ' w' n0 D :=
  ⟨h.1, h.2.1.evo e, (h.2.1.same (fun hx => by have := hX D hx; have := h.1; omega) e).trans h.2.2⟩
theorem Mk.less {K : Kr} {σ : Slots} {w : World} {n0 n1 D : Nat} (h : Mk K σ w n1 D) (hn : n0 ≤ n1) : Mk K σ w n0 D := ⟨Nat.le_trans hn h.1, h.2⟩

theorem PostX.of {p : Prm} {N : Nat} {K K' : Kr} {σ : Slots} {w w' : World} {df : List Deferred} {Q : AEx → St → Prop} {e : Exit} {a' : Act} {s' : St} {ae : AEx} (hp : p.At K σ w) (he : ERel e ae) (hs : SRel N K' s' a' w') (hev : Evo K σ w K' s'.σ w') (hd : a'.defers = df)
    (hq : Q ae s') : PostX p N K σ w df Q e a' w' := ⟨K', s', ae, he, hs, hev.toE, hp.evo hev, ⟨[], by simpa using hd, List.nodup_nil, by simp⟩, hq⟩
theorem PostX.notOut {p : Prm} {N : Nat} {K : Kr} {σ : Slots} {w : World} {df : List Deferred} {Q : AEx → St → Prop} : ¬ LetsOut (PostX p N K σ w df Q) := fun ⟨a, w, K', s', ae, he, _⟩ => by cases he
theorem PostX.then {p : Prm} {N : Nat} {K K1 : Kr} {σ σ1 : Slots} {w w1 : World} {df : List Deferred} {Ds : List Nat} {d1 : List Deferred} {Q : AEx → St → Prop} {e : Exit} {a' : Act} {w' : World} (hp : p.At K σ w) (hev : EvoE p.X K σ w K1 σ1 w1) (hd : d1 = Ds.map mkD ++ df) (hn : Ds.Nodup)
    (hm : ∀ D ∈ Ds, Mk K1 σ1 w1 w.heap.size D) (h : PostX p N K1 σ1 w1 d1 Q e a' w') : PostX p N K σ w df Q e a' w' := by
  obtain ⟨K2, s2, ae, he, h1, h2, h3, ⟨Ds2, h4, h5, h6⟩, h7⟩ := h
  refine ⟨K2, s2, ae, he, h1, hev.trans h2, h3, ⟨Ds2 ++ Ds, by rw [h4, hd]; simp, ?_, ?_⟩, h7⟩
  · rw [List.nodup_append]
    refine ⟨h5, hn, ?_⟩
    rintro x hx y hy rfl
    have := (h6 x hx).1; have := (hm x hy).2.1.1; omega
  · intro D hD
    rw [List.mem_append] at hD
    rcases hD with hD | hD
    · exact (h6 D hD).less hev.size
    · exact (hm D hD).evo (fun b hb => (hp.1 b hb).1) h2

def trX (o : Option Prm) (P : Program) (N : Nat) (ch : List (Nat × List Nat)) : Code → Option ACode
  | .skip => some .skip
  | .region id ops false => if (choice ch (id + 2000000)).isEmpty then (match trAll P N ops (choice ch id) ops.toList with
      | some is => some (.region is)
      | none => none) else match o with
      | some p => some (.ext N p (.region id ops false))
      | none => none
  | .region id ops true => match trAll P N ops (choice ch id) ops.toList with
    | some is => if P.follows .mixedOrders && drawOk ops is (choice ch (id + 1000000)) (ancs ops) then some (.draw (choice ch (id + 1000000)) is) else none
    | none => none
  | .seq a b => match trX o P N ch a, trX o P N ch b with
    | some a', some b' => some (.seq a' b')
    | _, _ => none
  | .cond c a b => match trOpd c, trX o P N ch a, trX o P N ch b with
    | some c', some a', some b' => some (.cond c' a' b')
    | _, _, _ => none
  | .block id a => match trX o P N ch a with
    | some a' => some (.block id a')
    | none => none
  | .loop a => match trX o P N ch a with
    | some a' => some (.loop a')
    | none => none
  | .exit id => some (.exit id)
  | .label _ => some .label
  | .ret => some .ret
  | .rangeFunc f ps as_ x => match o with
    | some p => some (.ext N p (.rangeFunc f ps as_ x))
    | none => none
  | _ => none
def triv : Prm := ⟨fun _ => False, fun _ _ => True, fun _ _ _ _ _ _ _ => trivial⟩
theorem triv_at {K : Kr} {σ : Slots} {w : World} : triv.At K σ w := ⟨fun _ h => h.elim, trivial⟩

theorem wpx_ok {P : Program} {N n : Nat} {o : Option Prm} {ro : Option Nat} {ch : List (Nat × List Nat)} (hro : o = none ∨ ro = none) : ∀ (c : Code) {ac : ACode} {Q : AEx → St → Prop} {s : St} {K : Kr} {a : Act} {w : World},
    trX o P N ch c = some ac → SRel N K s a w → (o.getD triv).At K s.σ w → wpc P ac Q s → c.wpIn (Fr ro) n P (PostX (o.getD triv) N K s.σ w a.defers Q) a w
  | .skip, ac, Q, s, K, a, w, ht, hs, hp, h => by
    simp [trX] at ht; subst ht
    exact wpIn_skip (.of hp .normal hs (Evo.refl _ _ _) rfl h)
  | .region id ops draw, ac, Q, s, K, a, w, ht, hs, hp, h => by
    cases draw with
    | false =>
      simp only [trX] at ht
      split at ht
      · split at ht
        · rename_i is hi
          injection ht with ht; subst ht
          obtain ⟨ρ', hsub, h⟩ := h
          refine wpIn_region_list (list_in PostX.notOut (trAll_noDefer hi) (wpr_ok hi (hs.sub hsub) h ?_))
          intro K1 s1 a1 w1 h1 h2 h3 h4
          exact .of hp .normal h1 h2 h3 h4
        · cases ht
      · cases o with
        | none => cases ht
        | some p =>
          injection ht with ht; subst ht
          rcases hro with hro | hro
          · cases hro
          · subst hro
            exact h n K a w hs hp
    | true =>
      simp only [trX] at ht
      split at ht
      · rename_i is hi
        split at ht
        · rename_i hcond
          simp only [Bool.and_eq_true] at hcond
          injection ht with ht; subst ht
          obtain ⟨l1, l2⟩ := trAll_len hi
          have hl : is.length = ops.size := by simpa using l1
          have hnd : ∀ (i : Nat) (o : Oper), ops[i]? = some o → noDefer o := fun i o ho => trAll_noDefer hi o (by simpa using Array.mem_of_getElem? ho)
          obtain ⟨g1, g2⟩ := hs.slots.grew (Grew.drew w none)
          have hs' : SRel N K s a w.drew := ⟨hs.size, fun t v hv => by
            obtain ⟨u, h3, h4⟩ := hs.tmps t v hv
            exact ⟨u, h3, h4.mono g2.le⟩, g1⟩
          by_cases h3 : ∃ (X : List Nat) (Pl : Nat → Nat) (S : Nat → St), S 0 = s ∧ (∀ (i : Nat) (x : AIns), is[i]? = some x → DStepC P X Pl i x (S i) (S (i + 1))) ∧ Q .normal (S is.length)
          · obtain ⟨X, Pl, S, e0, h1, h2⟩ := h3
            have hch : ChainC P is X Pl S := ⟨h1⟩
            refine wpIn_region_any hcond.1 (any_in PostX.notOut hnd (crawn_ok hl (chk_of hl hcond.2) hch (fun i o ho => l2 i o (by simpa using ho)) (K0 := K) (w0 := w) (df := a.defers) ?_ ops.size _ a _ ?_ ?_))
            · intro K1 s1 a1 w1 q1 q2 q3 q4 q5
              rw [hl] at h2
              have q1' : SRel N K1 (S ops.size) a1 w1 := ⟨q1.size, fun t v hv => q1.tmps t v ((q4 t).trans hv), q1.slots.congr fun p => (q5 p).symm⟩
              exact .of hp .normal q1' (by rw [e0] at q2; exact q2.congr fun p => (q5 p).symm) q3 h2
            · refine ⟨by simp, ?_, rfl, K, s, hs', by rw [e0]; exact g2, ?_, ?_, ?_, ?_⟩
              · intro j o ho hj; simp [Array.getElem?_replicate] at hj
              · intro j y d hy hj; simp [Array.getElem?_replicate] at hj
              · intro t _; rw [e0]
              · intro j p hj; simp [Array.getElem?_replicate] at hj
              · intro p _; rw [e0]
            · refine Nat.le_trans (List.countP_le_length) (by simp)
          have h : ∃ (X : List Nat) (S : Nat → St), S 0 = s ∧ (∀ (i : Nat) (x : AIns), is[i]? = some x → DStepX P (choice ch (id + 1000000)) X i x (S i) (S (i + 1))) ∧ Q .normal (S is.length) := by
            rcases h with h | h | h
            · obtain ⟨S, e0, h1, h2⟩ := wprd_chain h
              exact ⟨[], S, e0, fun i x hx => DStep.toX (by simpa using h1 i x hx), h2⟩
            · exact h
            · exact absurd h h3
          obtain ⟨X, S, e0, h1, h2⟩ := h
          have hch : Chain P is (choice ch (id + 1000000)) X S := ⟨h1⟩
          refine wpIn_region_any hcond.1 (any_in PostX.notOut hnd (drawn_ok hl (chk_of hl hcond.2) hch (fun i o ho => l2 i o (by simpa using ho)) (K0 := K) (w0 := w) (df := a.defers) ?_ ops.size _ a _ ?_ ?_))
          · intro K1 s1 a1 w1 q1 q2 q3 q4 q5
            rw [hl] at h2
            have q1' : SRel N K1 (S ops.size) a1 w1 := ⟨q1.size, fun t v hv => q1.tmps t v ((q4 t).trans hv), q5 ▸ q1.slots⟩
            exact .of hp .normal q1' (by rw [e0] at q2; rw [q5] at q2; exact q2) q3 h2
          · refine ⟨by simp, ?_, rfl, K, s, hs', by rw [e0]; exact g2, ?_, ?_, 0, Nat.zero_le _, ?_, by rw [e0]⟩
            · intro j o ho hj; simp [Array.getElem?_replicate] at hj
            · intro j y d hy hj; simp [Array.getElem?_replicate] at hj
            · intro t _; rw [e0]
            · intro j hj hb; simp [Array.getElem?_replicate]
          · refine Nat.le_trans (List.countP_le_length) (by simp)
        · cases ht
      · cases ht
  | .seq x y, ac, Q, s, K, a, w, ht, hs, hp, h => by
    simp only [trX] at ht
    split at ht
    · rename_i x' y' hx hy
      injection ht with ht; subst ht
      refine wpIn_seq (wpIn_mono (wpx_ok hro x hx hs hp h) ?_)
      rintro e a1 w1 ⟨K1, s1, ae, he, h1, h2, h3, ⟨Ds, h4, h5, h6⟩, h7⟩
      cases he with
      | normal => exact wpIn_mono (wpx_ok hro y hy h1 h3 h7) fun e a2 w2 hq => hq.then hp h2 h4 h5 h6
      | exit id => exact ⟨K1, s1, _, .exit id, h1, h2, h3, ⟨Ds, h4, h5, h6⟩, h7⟩
      | ret => exact ⟨K1, s1, _, .ret, h1, h2, h3, ⟨Ds, h4, h5, h6⟩, h7⟩
    · cases ht
  | .cond c x y, ac, Q, s, K, a, w, ht, hs, hp, h => by
    simp only [trX] at ht
    split at ht
    · rename_i c' x' y' hc hx hy
      injection ht with ht; subst ht
      obtain ⟨t, h1, h2, h3⟩ := h
      have hr := ev_rel hs hc h1
      have hb : a.eval c = .bool t := by
        cases hr with
        | iv _ _ hr => generalize a.eval c = cv at hr; cases hr; rfl
      cases t with
      | true => exact wpIn_cond_true hb (wpx_ok hro x hx hs hp (h2 rfl))
      | false => exact wpIn_cond_false hb (wpx_ok hro y hy hs hp (h3 rfl))
    · cases ht
  | .block id x, ac, Q, s, K, a, w, ht, hs, hp, h => by
    simp only [trX] at ht
    split at ht
    · rename_i x' hx
      injection ht with ht; subst ht
      refine wpIn_block (wpIn_mono (wpx_ok hro x hx hs hp h) ?_)
      rintro e a1 w1 ⟨K1, s1, ae, he, h1, h2, h3, h5, h4⟩
      cases he with
      | normal => exact ⟨K1, s1, _, .normal, h1, h2, h3, h5, h4⟩
      | exit i =>
        simp only [Exit.inBlock]
        simp only [blockC] at h4
        split
        · rename_i e; rw [if_pos e] at h4; exact ⟨K1, s1, _, .normal, h1, h2, h3, h5, h4⟩
        · rename_i e; rw [if_neg e] at h4; exact ⟨K1, s1, _, .exit i, h1, h2, h3, h5, h4⟩
      | ret => exact ⟨K1, s1, _, .ret, h1, h2, h3, h5, h4⟩
    · cases ht
  | .loop x, ac, Q, s, K, a, w, ht, hs, hp, h => by
    simp only [trX] at ht
    split at ht
    · rename_i x' hx
      injection ht with ht; subst ht
      obtain ⟨I, n, ⟨s0, had, h0⟩, hround⟩ := h
      obtain ⟨K0, hs0, hev0⟩ := adopts_ok had hs
      refine wpIn_loop_ghost (fun n a1 w1 => ∃ K1 s1, SRel N K1 s1 a1 w1 ∧ EvoE (o.getD triv).X K s.σ w K1 s1.σ w1 ∧ (o.getD triv).At K1 s1.σ w1 ∧ (∃ Ds : List Nat, a1.defers = Ds.map mkD ++ a.defers ∧ Ds.Nodup ∧ ∀ D ∈ Ds, Mk K1 s1.σ w1 w.heap.size D) ∧ I n s1) n
        ⟨K0, s0, hs0, hev0.toE, hp.evo hev0, ⟨[], by simp, List.nodup_nil, by simp⟩, h0⟩ ?_
      rintro n a1 w1 ⟨K1, s1, h1, h2, h3, ⟨Ds, h5, h6, h7⟩, h4⟩
      refine wpIn_mono (wpx_ok hro x hx h1 h3 (hround n s1 h4)) ?_
      intro e a2 w2 hq
      obtain ⟨K2, s2, ae, he, g1, g2, g3, g5, g4⟩ := hq.then hp h2 h5 h6 h7
      cases he with
      | normal =>
        obtain ⟨n', hn', hi⟩ := g4
        exact ⟨n', hn', K2, s2, g1, g2, g3, g5, hi⟩
      | exit id => exact ⟨K2, s2, _, .exit id, g1, g2, g3, g5, g4⟩
      | ret => exact ⟨K2, s2, _, .ret, g1, g2, g3, g5, g4⟩
    · cases ht
  | .rangeFunc f ps as_ x, ac, Q, s, K, a, w, ht, hs, hp, h => by
    simp only [trX] at ht
    cases o with
    | none => cases ht
    | some p =>
      injection ht with ht; subst ht
      rcases hro with hro | hro
      · cases hro
      · subst hro
        exact h n K a w hs hp
  | .exit id, ac, Q, s, K, a, w, ht, hs, hp, h => by
    simp [trX] at ht; subst ht
    exact wpIn_exit (.of hp (.exit id) hs (Evo.refl _ _ _) rfl h)
  | .scope x, ac, Q, s, K, a, w, ht, hs, hp, h => by simp [trX] at ht
  | .label l, ac, Q, s, K, a, w, ht, hs, hp, h => by
    simp [trX] at ht; subst ht
    exact wpIn_label (.of hp .normal hs (Evo.refl _ _ _) rfl h)
  | .goto l, ac, Q, s, K, a, w, ht, hs, hp, h => by simp [trX] at ht
  | .ret, ac, Q, s, K, a, w, ht, hs, hp, h => by
    simp [trX] at ht; subst ht
    exact wpIn_ret (.of hp .ret hs (Evo.refl _ _ _) rfl h)
  | .refuse why, ac, Q, s, K, a, w, ht, hs, hp, h => by simp [trX] at ht

end Go.Proofs.Ytinoaofgbkdohaa.Ag
namespace Go.Proofs.Ytinoaofgbkdohaa.Ag
open Go.RowKit (Below)

theorem heap_putObj {w : World} {D b : Nat} {o : Obj} (h : b ≠ D) : (w.putObj D o).heap[b]? = w.heap[b]? := World.putObj_heap_other h
theorem Odd.put {K : Kr} {σ : Slots} {w : World} {b D : Nat} {o : Obj} (h : Odd K σ w b) : Odd K σ (w.putObj D o) b := ⟨by simpa using h.1, h.2⟩
theorem Odd.le {K : Kr} {σ : Slots} {w : World} {D : Nat} {o : Obj} (h : Odd K σ w D) : K.Le w K (w.putObj D o) :=
  ⟨⟨fun _ hb => hb, fun b hb => heap_putObj (fun e => h.2.1 (e ▸ hb))⟩, fun k => ⟨Nat.le_refl _, fun _ _ => rfl⟩⟩
theorem SlotsRel.putOdd {K : Kr} {σ : Slots} {w : World} {D : Nat} {o : Obj} (hs : SlotsRel K σ w) (h : Odd K σ w D) : SlotsRel K σ (w.putObj D o) := by
  refine ⟨fun k n it hl => ⟨(hs.rel k n it hl).1, (hs.rel k n it hl).2.mono h.le fun b hb => heap_putObj ?_⟩, hs.free, hs.apart, fun b hb => ⟨(hs.imm b hb).1, by simpa using (hs.imm b hb).2⟩, fun b hb => by simpa using hs.old b hb⟩
  rintro rfl
  exact h.2.2 ⟨k, n, it, hl, hb⟩
theorem SRel.putOdd {N : Nat} {K : Kr} {s : St} {a : Act} {w : World} {D : Nat} {o : Obj} (hs : SRel N K s a w) (h : Odd K s.σ w D) : SRel N K s a (w.putObj D o) :=
  ⟨hs.size, fun t v hv => by obtain ⟨u, h1, h2⟩ := hs.tmps t v hv; exact ⟨u, h1, h2.mono h.le⟩, hs.slots.putOdd h⟩
theorem EvoE.putOdd {X : Nat → Prop} {K K' : Kr} {σ σ' : Slots} {w w' : World} {D : Nat} {o : Obj} (e : EvoE X K σ w K' σ' w') (h : Odd K' σ' w' D) (hD : X D ∨ w.heap.size ≤ D) : EvoE X K σ w K' σ' (w'.putObj D o) := by
  refine ⟨e.le.trans h.le, e.os, e.tape, e.output, by simpa using e.size, fun b hb hn hx => ?_, e.newI, e.newO⟩
  have : b ≠ D := by
    rintro rfl
    rcases hD with h1 | h1
    · exact hx h1
    · omega
  exact (heap_putObj this).trans (e.rest b hb hn hx)
theorem Prm.At.put {p : Prm} {K : Kr} {σ : Slots} {w : World} {D : Nat} {o : Obj} (h : p.At K σ w) (hD : Odd K σ w D) (hx : ¬ p.X D) : p.At K σ (w.putObj D o) :=
  ⟨fun b hb => (h.1 b hb).put, p.mono K w K _ hD.le (fun b hb => heap_putObj (fun e => hx (e ▸ hb))) h.2⟩

def GCX (p : Prm) (P : Program) (f : FuncId) (args : List TV) (σ : Slots) (Q : TV → Slots → Prop) : Prop :=
  ∀ (K : Kr) (w : World) (vs : Array Value), SlotsRel K σ w → p.At K σ w → vs.size = args.length → (∀ (q : Nat) (c : TV) (v : Value), args[q]? = some c → vs[q]? = some v → TRel K w c v) →
    Calls P f vs w fun e w' => ∃ v, e = .returned v ∧ ∃ K' r σ', Q r σ' ∧ TRel K' w' r v ∧ SlotsRel K' σ' w' ∧ EvoE p.X K σ w K' σ' w' ∧ p.At K' σ' w'
theorem GC.ofGCX {P : Program} {f : FuncId} {args : List TV} {σ : Slots} {Q : TV → Slots → Prop} (h : GCX triv P f args σ Q) : GC P f args σ Q := by
  intro K w vs hs hsz hr
  refine (h K w vs hs triv_at hsz hr).mono ?_
  rintro e w' ⟨v, rfl, K', r, σ', h1, h2, h3, h4, _⟩
  exact ⟨v, rfl, K', r, σ', h1, h2, h3, EvoE.toEvo h4⟩
def shutDs (w : World) : List Nat → World
  | [] => w
  | D :: Ds => shutDs (w.putObj D (.deferred none)) Ds
theorem leavesM {F : Fence} {n : Nat} {P : Program} {fn : Func} {tmps : Array Value} {R : Ending → World → Prop} : ∀ (Ds : List Nat) (w : World), Ds.Nodup → (∀ D ∈ Ds, w.heap[D]? = some (.deferred (some []))) →
    LeavesIn F n P fn tmps R [] .returning (shutDs w Ds) → LeavesInM F n P fn tmps R (Ds.map mkD) .returning w
  | [], w, hn, hh, h => h
  | D :: Ds, w, hn, hh, h => by
    refine ⟨by simp, .inl ⟨D, w.putObj D (.deferred none), rfl, run_takeDeferred (hh D (by simp)), ?_⟩⟩
    rw [List.nodup_cons] at hn
    refine leavesM Ds _ hn.2 (fun D' hD' => ?_) h
    rw [heap_putObj (by rintro rfl; exact hn.1 hD')]
    exact hh D' (by simp [hD'])
theorem shutDs_ok {X : Nat → Prop} {N : Nat} {K0 : Kr} {σ0 : Slots} {w0 : World} {K : Kr} {s : St} {a : Act} (p : Prm) : ∀ (Ds : List Nat) (w : World), (∀ D ∈ Ds, w0.heap.size ≤ D ∧ Odd K s.σ w D) → (∀ b, p.X b → b < w0.heap.size) → SRel N K s a w → EvoE X K0 σ0 w0 K s.σ w → p.At K s.σ w →
    SRel N K s a (shutDs w Ds) ∧ EvoE X K0 σ0 w0 K s.σ (shutDs w Ds) ∧ p.At K s.σ (shutDs w Ds)
  | [], w, hd, hx, hs, he, hp => ⟨hs, he, hp⟩
  | D :: Ds, w, hd, hx, hs, he, hp => by
    obtain ⟨h1, h2⟩ := hd D (by simp)
    exact shutDs_ok p Ds _ (fun D' hD' => ⟨(hd D' (by simp [hD'])).1, (hd D' (by simp [hD'])).2.put⟩) hx (hs.putOdd h2) (he.putOdd h2 (.inr h1)) (hp.put h2 (fun h => by have := hx D h; omega))

def trFnX (p : Prm) (P : Program) (ch : List (Nat × List Nat)) (fn : Func) : Option AFn :=
  match fn.body with
  | some c => match trX (some p) P fn.ntmps ch c, trRes P fn.results.toList with
    | some ac, some rs => some ⟨ac, rs⟩
    | _, _ => none
  | none => none
theorem GCX.of {p : Prm} {P : Program} {f : FuncId} {fn : Func} {ch : List (Nat × List Nat)} {af : AFn} {args : List TV} {σ : Slots} {Q : TV → Slots → Prop} (hf : P.funcs[f]? = some fn) (ht : trFnX p P ch fn = some af) (hn : args.length ≤ fn.ntmps)
    (h : wpc P af.code (endsIn af.res Q) { ρ := args0 args 0, σ := σ }) : GCX p P f args σ Q := by
  intro K w vs hs hp hsz hr
  unfold trFnX at ht
  split at ht
  · rename_i c hc
    split at ht
    · rename_i ac rs h1 h2
      injection ht with ht; subst ht
      refine (callsIn_wide (n := 0)).1 (callsIn_of_wp_marks hf hc trivial ?_ rfl)
      have hs0 : SRel fn.ntmps K { ρ := args0 args 0, σ := σ } { tmps := vs ++ Array.replicate (fn.ntmps - vs.size) undef, defers := [] } w := by
        refine ⟨by simp; omega, ?_, hs⟩
        intro t v hv
        obtain ⟨h3, h4⟩ := lk_args0 hv
        have hlt : t < vs.size := by have := (List.getElem?_eq_some_iff.1 h4).1; omega
        refine ⟨vs[t], by rw [Array.getElem?_append_left hlt]; simp [hlt], hr t v vs[t] (by simpa using h4) (by simp [hlt])⟩
      refine wpIn_mono (wpx_ok (ro := none) (n := 0) (.inr rfl) c h1 hs0 hp h) ?_
      rintro e a1 w1 ⟨K1, s1, ae, he, g1, g2, g3, ⟨Ds, g4, g5, g6⟩, g7⟩
      obtain ⟨hx, us, hus, hq⟩ := g7
      obtain ⟨q1, q2, q3⟩ := shutDs_ok p Ds w1 (fun D hD => ⟨(g6 D hD).1, (g6 D hD).2.1⟩) (fun b hb => (hp.1 b hb).1) g1 g2 g3
      obtain ⟨v, hv, hvr⟩ := results_rel q1 h2 hus
      have fin : LeavesInM Fence.wide 0 P fn a1.tmps (fun e w' => ∃ v, e = .returned v ∧ ∃ K' r σ', Q r σ' ∧ TRel K' w' r v ∧ SlotsRel K' σ' w' ∧ EvoE p.X K σ w K' σ' w' ∧ p.At K' σ' w') a1.defers .returning w1 := by
        rw [g4]
        simp only [List.append_nil]
        exact leavesM Ds w1 g5 (fun D hD => (g6 D hD).2.2) ⟨v, hv, v, rfl, K1, _, s1.σ, hq, hvr, q1.slots, q2, q3⟩
      cases he with
      | normal => exact fin
      | exit id => exact hx.elim
      | ret => exact fin
    · cases ht
  · cases ht

def YC (p : Prm) (P : Program) (l : Nat) (args : List TV) (σ : Slots) (R : Slots → Prop) : Prop :=
  ∀ (n : Nat) (K : Kr) (w : World) (vs : Array Value), SlotsRel K σ w → p.At K σ w → vs.size = args.length → (∀ (q : Nat) (c : TV) (v : Value), args[q]? = some c → vs[q]? = some v → TRel K w c v) →
    ∃ fn tmps assign body, (Instr.yield l vs).run P w = .ok (.round l fn tmps assign body) w ∧
      RoundIn Fence.wide n P l fn tmps assign body w fun e w' => e = .returned (.bool true) ∧ ∃ K' σ', R σ' ∧ SlotsRel K' σ' w' ∧ EvoE p.X K σ w K' σ' w' ∧ p.At K' σ' w'

def thenL (K : Act → World → Prop) (Q : Exit → Act → World → Prop) : Exit → Act → World → Prop
  | .normal, a, w => K a w
  | e, a, w => Q e a w
theorem wpListIn_app {F : Fence} {n : Nat} {P : Program} {ops : Array Oper} {Q : Exit → Act → World → Prop} {l2 : List Oper} : ∀ {l1 : List Oper} {a : Act} {w : World}, wpListIn F n P ops (thenL (wpListIn F n P ops Q l2) Q) l1 a w → wpListIn F n P ops Q (l1 ++ l2) a w
  | [], a, w, h => h
  | o :: l1, a, w, h => by
    unfold wpListIn at h
    show wpListIn F n P ops Q (o :: (l1 ++ l2)) a w
    unfold wpListIn
    split
    · rename_i hw
      rw [if_pos hw] at h
      refine ⟨h.1, ?_⟩
      have h := h.2
      generalize (o.semAt F.round a.eval).run P w = r at h ⊢
      cases r with
      | ok x w' =>
        cases x with
        | value v => exact wpListIn_app h
        | skip => exact wpListIn_app h
        | defer d => exact wpListIn_app h
        | enter f args =>
          refine ⟨h.1, h.2.mono ?_⟩
          rintro e w'' he
          cases e with
          | returned v => exact wpListIn_app he
          | panicked c => exact he
          | outgrown => exact he
        | row r args => exact ⟨h.1, h.2.mono fun v w'' he => wpListIn_app he⟩
        | round l f tmps assign body =>
          refine ⟨h.1, h.2.mono ?_⟩
          rintro e w'' he
          cases e with
          | returned v => exact wpListIn_app he
          | panicked c => exact he
          | outgrown => exact he
        | _ => exact h.elim
      | halt x w' => cases x <;> first | exact h | exact h.elim
    · rename_i hw
      rw [if_neg hw] at h
      exact ⟨h.1, wpListIn_app h.2⟩

theorem wpc_yield {p : Prm} {P : Program} {N id d : Nat} {ops : Array Oper} {pre post : List Oper} {o : Oper} {ch1 ch2 : List Nat} {is1 is2 : List AIns} {fo : Operand} {f' : AOpd} {args : Array Operand} {tys : Array TypeId} {as_ : List AOpd} {Q : AEx → St → Prop} {s : St}
    (hops : ops.toList = pre ++ o :: post) (t1 : trAll P N ops ch1 pre = some is1) (t2 : trAll P N ops ch2 post = some is2) (ho : o.op = .call { callee := .value fo, args := args, argTypes := tys }) (hfo : ∀ k, fo ≠ .func k) (hg : o.guard = none)
    (tro : trOpd fo = some f') (tra : args.toList.mapM trOpd = some as_) (hd : o.dst = some d) (hN : d < N)
    (h : wpr P is1 (fun s1 => ∃ l vs R, ev s1.ρ f' = some (.iv (.fn (.yield l) [] [])) ∧ evAll s1.ρ as_ = some vs ∧ YC p P l vs s1.σ R ∧ ∀ σ', R σ' → wpr P is2 (Q .normal) ({ s1 with σ := σ' }.put (some d) (.iv (.bool true)))) s) :
    wpc P (.ext N p (.region id ops false)) Q s := by
  intro n K a w hs hp
  refine wpIn_region_list ?_
  rw [hops]
  refine wpListIn_app (list_in (ro := none) ?_ (trAll_noDefer t1) (wpr_ok t1 hs h ?_))
  · rintro ⟨a, w, hout⟩; exact PostX.notOut ⟨a, w, hout⟩
  rintro K1 s1 a1 w1 q1 q2 q3 ⟨l, vs, R, e1, e2, hy, hR⟩
  show wpListIn Fence.wide n P ops _ (o :: post) a1 w1
  unfold wpListIn
  rw [if_pos (by simp [Region.wanted, hg])]
  obtain ⟨x1, x2⟩ := evAll_rel q1 args.toList as_ vs tra e2
  have hfv : a1.eval fo = .func (.yield l) #[] #[] := by
    have := ev_rel q1 tro e1
    generalize a1.eval fo = u at this
    cases this with
    | iv _ _ hu =>
      cases hu with
      | fn f fs cs vf vc hf hc hrf hrc =>
        have h1 : vf = #[] := Array.size_eq_zero_iff.1 (by simpa using hf)
        have h2 : vc = #[] := Array.size_eq_zero_iff.1 (by simpa using hc)
        rw [h1, h2]
  have hp1 : p.At K1 s1.σ w1 := hp.evo q2
  obtain ⟨fn, tmps, assign, body, y1, y2⟩ := hy (n - 1) K1 w1 (args.map a1.eval) q1.slots hp1 (by simp [x1]) (fun q c v hc hv => x2 q c v hc (by simpa using hv))
  refine ⟨fun _ _ => trivial, ?_⟩
  have hrun : (o.semAt Fence.wide.round a1.eval).run P w1 = .ok (.round l fn tmps assign body) w1 := by
    rw [show Fence.wide.round = none from rfl, Oper.semAt_none]
    obtain ⟨d0, op, ty, ps, af, g⟩ := o
    simp only at ho; subst ho
    simp [execOp, resolve, hfv, Deferred.ofValue, invoke, y1]
  rw [hrun]
  refine ⟨fun h => by simp [Fence.wide] at h, y2.mono ?_⟩
  rintro e w' ⟨rfl, K', σ', g1, g2, g3, g4⟩
  show wpListIn Fence.wide n P ops _ post (a1.put o.dst (.bool true)) w'
  have hs2 : SRel N K' ({ s1 with σ := σ' }.put (some d) (.iv (.bool true))) (a1.put o.dst (.bool true)) w' := by
    rw [hd]
    exact TRel.put q1 g3.le g2 (.iv _ _ (.bool true)) (by intro d' e; cases e; exact hN)
  have := list_in (ro := none) (n := n) (ops := ops) (Q := PostX p N K s.σ w a.defers Q) PostX.notOut (trAll_noDefer t2) (wpr_ok t2 hs2 (hR σ' g1) ?_)
  · exact this
  intro K2 s2 a2 w2 r1 r2 r3 r4
  refine PostX.then hp ((Evo.toE q2).trans g3) (df := a.defers) (d1 := a.defers) (Ds := []) (by simp) List.nodup_nil (by simp) ?_
  exact PostX.of g4 .normal r1 (by simpa [St.put] using r2) (by rw [r3, put_defers, q3]) r4

end Go.Proofs.Ytinoaofgbkdohaa.Ag
namespace Go.Proofs.Ytinoaofgbkdohaa.Ag
open Go.RowKit (Below)

def Rd (P : Program) (A B : ACode) (p1 p2 : Nat) (ρ : List (Nat × TV)) (x1 x2 : TV) (σ : Slots) (R : Slots → Prop) : Prop :=
  wpc P A (thenC (wpc P B (fun e s' => e = .normal ∧ R s'.σ)) (fun _ _ => False)) { ρ := (p2, x2) :: (p1, x1) :: ρ, σ := σ }

def loopP (l : Nat) (rec : Loop) (K0 : Kr) (w0 : World) : Prm where
  X := fun b => b = l
  Z := fun K w => w.heap[l]? = some (.loop rec) ∧ K0.Le w0 K w
  mono := fun K w K' w' hle hx h => ⟨(hx l rfl).trans h.1, h.2.trans hle⟩

theorem rd_yc {P : Program} {N : Nat} {fn : FuncId} {p1 p2 : Nat} {assign body : Code} {A B : ACode} {ch1 ch2 : List (Nat × List Nat)} {l D : Nat} {rec : Loop} {K0 : Kr} {w0 : World} {s : St} {a : Act}
    (tA : trX none P N ch1 assign = some A) (tB : trX none P N ch2 body = some B) (h1N : p1 < N) (h2N : p2 < N) (hs0 : SRel N K0 s a w0)
    (hrec : rec = { state := .ready, pending := none, fn := fn, tmps := a.tmps, params := #[p1, p2], assign := assign, body := body, defers := D })
    {x1 x2 : TV} {σ : Slots} {R : Slots → Prop} (h : Rd P A B p1 p2 s.ρ x1 x2 σ R) : YC (loopP l rec K0 w0) P l [x1, x2] σ R := by
  intro n K w vs hs hp hsz hr
  obtain ⟨hodd, hl, hle⟩ : Odd K σ w l ∧ w.heap[l]? = some (.loop rec) ∧ K0.Le w0 K w := ⟨hp.1 l rfl, hp.2.1, hp.2.2⟩
  obtain ⟨u1, u2, rfl⟩ : ∃ u1 u2, vs = #[u1, u2] := by
    obtain ⟨l⟩ := vs
    match l, hsz with
    | [u1, u2], _ => exact ⟨u1, u2, rfl⟩
  have hr1 : TRel K w x1 u1 := hr 0 x1 u1 rfl rfl
  have hr2 : TRel K w x2 u2 := hr 1 x2 u2 rfl rfl
  have hy := run_yield (P := P) (args := #[u1, u2]) hl (by rw [hrec]; rfl)
  refine ⟨_, _, _, _, hy, ?_⟩
  have hS : SRel N K { ρ := (p2, x2) :: (p1, x1) :: s.ρ, σ := σ } { tmps := ((rec.params.zip #[u1, u2]).foldl (fun tmps (t, a) => tmps.setIfInBounds t a) rec.tmps), defers := [] } w := by
    have e1 := TRel.put hs0 hle hs hr1 (dst := some p1) (by intro d e; cases e; exact h1N)
    have e2 := TRel.put e1 (Kr.Le.refl _ _) hs hr2 (dst := some p2) (by intro d e; cases e; exact h2N)
    rw [hrec]
    exact ⟨by simpa [Act.put] using e2.size, fun t v hv => by simpa [Act.put] using e2.tmps t v hv, e2.slots⟩
  refine roundIn_of_wpIn (F := Fence.wide) trivial ?_
  have ea : rec.assign = assign := by rw [hrec]
  have eb : rec.body = body := by rw [hrec]
  rw [ea, eb]
  refine wpIn_mono (wpx_ok (o := none) (ro := some l) (n := n) (.inl rfl) assign tA hS triv_at h) ?_
  rintro e a1 w1 ⟨K1, s1, ae, he, q1, q2, _, _, q3⟩
  cases he with
  | exit id => exact q3.elim
  | ret => exact q3.elim
  | normal =>
    have q2 : EvoE (fun _ => False) K σ w K1 s1.σ w1 := q2
    have o1 : Odd K1 s1.σ w1 l := hodd.evo q2
    have hl1 : w1.heap[l]? = some (.loop rec) := (hodd.same id q2).trans hl
    refine ⟨_, run_beginRound hl1 (by rw [hrec]), ?_⟩
    refine wpIn_mono (wpx_ok (o := none) (ro := some l) (n := n) (.inl rfl) body tB (q1.putOdd o1) triv_at q3) ?_
    rintro e a2 w2 ⟨K2, s2, ae, he, g1, g2, _, _, g3, g4⟩
    subst g3
    cases he
    have g2 : EvoE (fun _ => False) K1 s1.σ (w1.putObj l (.loop { rec with state := .busy })) K2 s2.σ w2 := g2
    have o2 : Odd K2 s2.σ w2 l := (o1.put).evo g2
    have hl2 : w2.heap[l]? = some (.loop { rec with state := .busy }) := (o1.put.same id g2).trans (World.putObj_heap_same o1.1)
    refine ⟨_, _, run_endRound none hl2, rfl, K2, s2.σ, g4, g1.slots.putOdd o2, ?_, ?_⟩
    · have weak : ∀ {K K' : Kr} {σ σ' : Slots} {w w' : World}, EvoE (fun _ => False) K σ w K' σ' w' → EvoE (loopP l rec K0 w0).X K σ w K' σ' w' := fun h => ⟨h.le, h.os, h.tape, h.output, h.size, fun b h1 h2 _ => h.rest b h1 h2 id, h.newI, h.newO⟩
      exact (((weak q2).putOdd o1 (.inl rfl)).trans (weak g2)).putOdd o2 (.inl rfl)
    · refine ⟨fun b hb => by cases hb; exact o2.put, ?_, ?_⟩
      · rw [World.putObj_heap_same o2.1, hrec]
        rfl
      · exact (hle.trans (q2.le.trans (o1.le.trans g2.le))).trans o2.le

theorem wpc_range {P : Program} {N : Nat} {g : Operand} {g' : AOpd} {p1 p2 : Nat} {assign body : Code} {A B : ACode} {ch1 ch2 : List (Nat × List Nat)} {Q : AEx → St → Prop} {s : St} {gf : FuncId} {t : TV} {cs : List TV} {J : Slots → Prop}
    (hf : callOk P gf = true) (trg : trOpd g = some g') (hg : ev s.ρ g' = some t) (hp : fnParts t = some (gf, [], cs)) (tA : trX none P N ch1 assign = some A) (tB : trX none P N ch2 body = some B) (h1N : p1 < N) (h2N : p2 < N)
    (hit : ∀ (p : Prm) (l : Nat), (∀ x1 x2 σ R, Rd P A B p1 p2 s.ρ x1 x2 σ R → YC p P l [x1, x2] σ R) → GCX p P gf (.iv (.fn (.yield l) [] []) :: cs) s.σ (fun _ σ' => J σ'))
    (hdone : ∀ σ', J σ' → Q .normal { ρ := s.ρ, σ := σ' }) : wpc P (.ext N triv (.rangeFunc g #[p1, p2] assign body)) Q s := by
  intro n K a w hs _
  refine wpIn_rangeFunc ?_
  intro fn _
  obtain ⟨rec, hrec⟩ : ∃ rec : Loop, rec = { state := .ready, pending := none, fn := fn, tmps := a.tmps, params := #[p1, p2], assign := assign, body := body, defers := w.heap.size } := ⟨_, rfl⟩
  obtain ⟨W1, hW1⟩ : ∃ W1, (w.alloc (.deferred (some []))).alloc (.loop rec) = W1 := ⟨_, rfl⟩
  obtain ⟨vf, vc, hcv, hvf, hvc, hrf, hrc⟩ := fnParts_rel hp (ev_rel hs trg hg)
  have hvf0 : vf = #[] := Array.size_eq_zero_iff.1 (by simpa using hvf)
  subst hvf0
  have hsz1 : W1.heap.size = w.heap.size + 2 := by rw [← hW1]; simp
  have hL1 : W1.heap[w.heap.size + 1]? = some (.loop rec) := by
    rw [← hW1]; have := World.alloc_heap_new (w.alloc (.deferred (some []))) (.loop rec); rwa [World.size_alloc] at this
  have hD1 : W1.heap[w.heap.size]? = some (.deferred (some [])) := by
    rw [← hW1]; exact (Below.heap_alloc _ _ _ (by simp)).trans (World.alloc_heap_new w _)
  obtain ⟨s1, e1⟩ := hs.slots.grew (Grew.trans (Grew.alloc w (.deferred (some [])) none) (Grew.alloc _ (.loop rec) none))
  rw [hW1] at s1 e1
  have oddN : ∀ b, w.heap.size ≤ b → b < W1.heap.size → Odd K s.σ W1 b := fun b h1 h2 =>
    ⟨h2, fun hI => by have := hs.slots.old b hI; omega, fun hO => by have := (hs.slots.imm b hO).2; omega⟩
  have oL := oddN (w.heap.size + 1) (by omega) (by omega)
  have oD := oddN w.heap.size (by omega) (by omega)
  refine ⟨w.heap.size + 1, [mkD w.heap.size], W1, { target := .fn (.func gf) vc, args := #[.func (.yield (w.heap.size + 1)) #[] #[]] }, W1, gf,
    #[.func (.yield (w.heap.size + 1)) #[] #[]] ++ vc, W1, ?_, ?_, fun _ _ => trivial, ?_, fun h => by simp [Fence.wide] at h, ?_⟩
  · rw [← hW1, hrec]; exact run_enterLoop_outer _ _ _ _ _
  · simp only [resolve, rangeCall, hcv]
    simp [go_sem, Deferred.ofValue]
  · simp [invoke, run_callFunc hf]
  · refine (callsIn_wide (n := n - 1)).2 ?_
    have hpA : (loopP (w.heap.size + 1) rec K w).At K s.σ W1 := ⟨fun b hb => by cases hb; exact oL, hL1, e1.le⟩
    refine (hit (loopP (w.heap.size + 1) rec K w) (w.heap.size + 1) (fun x1 x2 σ R hR => rd_yc tA tB h1N h2N hs hrec hR) K W1 _ s1 hpA (by simp [hvc]; omega) ?_).mono ?_
    · intro q c v hc hv
      cases q with
      | zero =>
        simp at hc
        rw [Array.getElem?_append_left (by simp)] at hv
        simp at hv
        subst hc; subst hv
        exact .iv _ _ (.fn _ _ _ _ _ rfl rfl (fun q c v h => by simp at h) (fun q c v h => by simp at h))
      | succ q =>
        simp at hc
        rw [Array.getElem?_append_right (by simp)] at hv
        simp at hv
        exact (hrc q c v hc hv).mono e1.le
    · rintro e w' ⟨v, rfl, K', r, σ', hJ, _, h3, h4, h5⟩
      have oL' : Odd K' σ' w' (w.heap.size + 1) := h5.1 _ rfl
      have oD' : Odd K' σ' w' w.heap.size := oD.evo h4
      have hD' : w'.heap[w.heap.size]? = some (.deferred (some [])) := (oD.same (by show ¬ (w.heap.size = w.heap.size + 1); omega) h4).trans hD1
      have hrun := run_endLoop (P := P) h5.2.1 (by rw [hrec]; simp)
      refine ⟨none, _, by rw [hrun, hrec], ?_⟩
      have eA : EvoE triv.X K s.σ w K' σ' w' := by
        refine ⟨e1.le.trans h4.le, h4.os.trans e1.os, h4.tape.trans e1.tape, h4.output.trans e1.output, Nat.le_trans e1.size h4.size, ?_, ?_, ?_⟩
        · intro b hb hn _
          refine (h4.rest b (by omega) hn ?_).trans (e1.rest b hb hn)
          show ¬ (b = w.heap.size + 1); omega
        · intro b hb
          rcases h4.newI b hb with h | h | h
          · exact .inl h
          · exact .inr (.inl h)
          · exact .inr (.inr (by omega))
        · intro b hb
          rcases h4.newO b hb with h | h
          · exact .inl h
          · exact .inr (by omega)
      refine ⟨K', { ρ := s.ρ, σ := σ' }, .normal, .normal, ?_, eA.putOdd oL' (.inr (by omega)), triv_at, ⟨[w.heap.size], rfl, by simp, ?_⟩, hdone σ' hJ⟩
      · refine SRel.putOdd ?_ oL'
        exact ⟨hs.size, fun t v hv => by obtain ⟨u, x1, x2⟩ := hs.tmps t v hv; exact ⟨u, x1, x2.mono eA.le⟩, h3⟩
      · intro D hD
        simp at hD; subst hD
        exact ⟨Nat.le_refl _, oD'.put, by rw [heap_putObj (by omega)]; exact hD'⟩

end Go.Proofs.Ytinoaofgbkdohaa.Ag
namespace Go.Proofs.Ytinoaofgbkdohaa.Ag
def bodyOf (fn : Func) : Code := fn.body.getD .skip
def codeAt : List Bool → Code → Code
  | [], c => c
  | b :: l, .seq x y => codeAt l (if b then y else x)
  | b :: l, .cond _ x y => codeAt l (if b then y else x)
  | b :: l, .rangeFunc _ _ x y => codeAt l (if b then y else x)
  | _ :: l, .block _ x => codeAt l x
  | _ :: l, .loop x => codeAt l x
  | _, c => c
def opsOf : Code → Array Oper
  | .region _ ops _ => ops
  | _ => #[]
end Go.Proofs.Ytinoaofgbkdohaa.Ag
