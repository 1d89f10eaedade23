/- How places come, turn and go: the steps of memory. -/
import Derived.Test.YtdlgenppdgkacaaGreatDoorAg2
set_option linter.unusedVariables false
set_option linter.unusedSimpArgs false
namespace Go.Proofs.YtdlgenppdgkacaaGreatDoor.Ag
open Go.RowKit (Below)

theorem TRel.put {N : Nat} {K K' : Kr} {s : St} {a : Act} {w w' : World} {σ' : List (Nat × Nat × Item)} (h : SRel N K s a w) (e : K.Le w K' w') (hs : SlotsRel K' σ' w')
    {v : TV} {u : Value} (hv : TRel K' w' v u) {dst : Option Nat} (hd : ∀ d, dst = some d → d < N) :
    SRel N K' ({ s with σ := σ' }.put dst v) (a.put dst u) w' := by
  cases dst with
  | none =>
    exact ⟨h.size, fun t x hx => by
      obtain ⟨y, hy, hr⟩ := h.tmps t x hx
      exact ⟨y, hy, hr.mono e⟩, hs⟩
  | some d =>
    have hd := hd d rfl
    refine ⟨by simp [Act.put, h.size], fun t x hx => ?_, hs⟩
    simp only [St.put, lk] at hx
    split at hx
    · rename_i hdt
      subst hdt
      injection hx with hx
      subst hx
      exact ⟨u, by simp [Act.put, h.size, hd], hv⟩
    · rename_i hdt
      obtain ⟨y, hy, hr⟩ := h.tmps t x hx
      exact ⟨y, by simp only [Act.put]; rw [Array.getElem?_setIfInBounds_ne hdt]; exact hy, hr.mono e⟩

/-- The number of a place's next thing. -/
def nxt (σ : List (Nat × Nat × Item)) (k : Nat) : Nat :=
  match lk σ k with
  | some (n, _) => n + 1
  | none => 0

theorem SlotsRel.nxt {K : Kr} {σ : List (Nat × Nat × Item)} {w : World} (h : SlotsRel K σ w) (k : Nat) : K.V k = nxt σ k := by
  unfold Ag.nxt
  split
  · rename_i n it hk; exact (h.rel k n it hk).1
  · rename_i hk; exact h.free k hk

/-- A place gets a new thing, in the model 'v'. -/
def Kr.add (K : Kr) (k : Nat) (v : Value) : Kr :=
  { I := K.I, A := fun k' n => if k' = k ∧ n = K.V k then v else K.A k' n, V := fun k' => if k' = k then K.V k + 1 else K.V k' }

theorem Kr.add_le {K : Kr} {w w' : World} (k : Nat) (v : Value) (h : Stays K.I w K.I w') : K.Le w (K.add k v) w' := by
  refine ⟨h, fun k' => ⟨?_, fun n hn => ?_⟩⟩
  · simp only [Kr.add]; split
    · rename_i e; subst e; omega
    · exact Nat.le_refl _
  · simp only [Kr.add]
    rw [if_neg]
    rintro ⟨rfl, rfl⟩
    omega

/-- A world that has grown by blocks, nothing of the old turned but (perhaps) one block of the call's own. -/
structure Grew (w w' : World) (row : Option Nat) : Prop where
  os : w'.os = w.os
  tape : w'.tape = w.tape
  output : w'.output = w.output
  size : w.heap.size ≤ w'.heap.size
  block : ∀ b, b < w.heap.size → some b ≠ row → w'.heap[b]? = w.heap[b]?

theorem Grew.refl (w : World) (row : Option Nat) : Grew w w row := ⟨rfl, rfl, rfl, Nat.le_refl _, fun _ _ _ => rfl⟩
theorem Grew.alloc (w : World) (o : Obj) (row : Option Nat) : Grew w (w.alloc o) row :=
  ⟨rfl, rfl, rfl, by simp, fun b hb _ => Below.heap_alloc w o b hb⟩
theorem Grew.drew (w : World) (row : Option Nat) : Grew w w.drew row := ⟨rfl, rfl, rfl, Nat.le_refl _, fun _ _ _ => rfl⟩
theorem Grew.trans {a b c : World} {row : Option Nat} (h : Grew a b row) (k : Grew b c row) : Grew a c row :=
  ⟨k.os.trans h.os, k.tape.trans h.tape, k.output.trans h.output, Nat.le_trans h.size k.size, fun i hi hne => (k.block i (Nat.lt_of_lt_of_le hi h.size) hne).trans (h.block i hi hne)⟩
theorem Grew.ofGrownBy {w w' : World} {row : Option Nat} (h : w.grownBy w' row) : Grew w w' row :=
  ⟨h.os, h.tape, h.output, h.size, fun b hb hne => h.block b hb (fun e => hne e)⟩
theorem Grew.setCell (w : World) (a : Addr) (v : Value) : Grew w (w.setCell a v) (some a.block) :=
  ⟨rfl, rfl, rfl, by simp, fun b _ hne => by
    simp only [World.setCell, Array.getElem?_modify]
    rw [if_neg (fun e => hne (by rw [e]))]⟩
theorem Grew.weaken {w w' : World} {row : Option Nat} (h : Grew w w' none) : Grew w w' row := ⟨h.os, h.tape, h.output, h.size, fun b hb _ => h.block b hb (by simp)⟩

theorem Grew.stays {K : Kr} {σ : List (Nat × Nat × Item)} {w w' : World} (hs : SlotsRel K σ w) {row : Option Nat} (g : Grew w w' row) (hr : ∀ b, row = some b → ¬ K.I b) : Stays K.I w K.I w' :=
  ⟨fun _ h => h, fun b hb => g.block b (hs.old b hb) (fun e => hr b e.symm hb)⟩

/-- A place gets a new thing (its old one is dropped). 'row': the block that was written: that of the dropped thing, or none. -/
theorem SlotsRel.add {K : Kr} {σ : List (Nat × Nat × Item)} {w w' : World} (h : SlotsRel K σ w) (k : Nat) (it : Item) (v : Value) (row : Option Nat)
    (g : Grew w w' row)
    (hrow : ∀ b, row = some b → ∃ n it', lk σ k = some (n, it') ∧ own it' (K.A k n) = some b)
    (hown : ∀ b, own it v = some b → b < w'.heap.size ∧ (w.heap.size ≤ b ∨ row = some b ∨ ∃ n it', lk σ k = some (n, it') ∧ own it' (K.A k n) = some b))
    (hi : ∀ K', K.Le w K' w' → K'.V k = K.V k + 1 → K'.A k (K.V k) = v → IRel K' w' it v) :
    SlotsRel (K.add k v) (upd σ k (K.V k, it)) w' ∧ Evo K σ w (K.add k v) (upd σ k (K.V k, it)) w' := by
  have hrowO : ∀ b, row = some b → Owned K σ b := fun b hb => by
    obtain ⟨n, it', h1, h2⟩ := hrow b hb
    exact ⟨k, n, it', h1, h2⟩
  have st : Stays K.I w K.I w' := g.stays h (fun b hb => (h.imm b (hrowO b hb)).1)
  have le := Kr.add_le k v st
  have hA : (K.add k v).A k (K.V k) = v := by simp [Kr.add]
  have hV : (K.add k v).V k = K.V k + 1 := by simp [Kr.add]
  have hA' : ∀ k' n', k' ≠ k → (K.add k v).A k' n' = K.A k' n' := fun k' n' hne => by simp [Kr.add, hne]
  have hOwn : ∀ b, Owned (K.add k v) (upd σ k (K.V k, it)) b → Owned K σ b ∨ w.heap.size ≤ b := by
    rintro b ⟨k', n', it', hl, ho⟩
    rw [lk_upd] at hl
    split at hl
    · rename_i e; subst e
      simp only [Option.some.injEq, Prod.mk.injEq] at hl
      obtain ⟨rfl, rfl⟩ := hl
      rw [hA] at ho
      rcases (hown b ho).2 with h1 | h1 | ⟨n, it'', h1, h2⟩
      · exact .inr h1
      · exact .inl (hrowO b h1)
      · exact .inl ⟨k, n, it'', h1, h2⟩
    · rename_i e
      rw [hA' k' n' (Ne.symm e)] at ho
      exact .inl ⟨k', n', it', hl, ho⟩
  refine ⟨⟨?_, ?_, ?_, ?_, ?_⟩, ⟨le, g.os, g.tape, g.output, g.size, ?_, fun b hb => .inl hb, hOwn⟩⟩
  · intro k' n' it' hl
    rw [lk_upd] at hl
    split at hl
    · rename_i e; subst e
      simp only [Option.some.injEq, Prod.mk.injEq] at hl
      obtain ⟨rfl, rfl⟩ := hl
      exact ⟨hV, by rw [hA]; exact hi _ le hV hA⟩
    · rename_i e
      obtain ⟨h1, h2⟩ := h.rel k' n' it' hl
      refine ⟨by simp [Kr.add, Ne.symm e, h1], ?_⟩
      rw [hA' k' n' (Ne.symm e)]
      refine h2.mono le fun b hb => g.block b (h.imm b ⟨k', n', it', hl, hb⟩).2 (fun e' => ?_)
      obtain ⟨n, it'', h3, h4⟩ := hrow b e'.symm
      exact e (h.apart k k' n n' it'' it' b h3 hl h4 hb)
  · intro k' hl
    rw [lk_upd] at hl
    split at hl
    · cases hl
    · rename_i e
      simp only [Kr.add, if_neg (Ne.symm e)]
      exact h.free k' hl
  · intro k1 k2 n1 n2 it1 it2 b h1 h2 o1 o2
    rw [lk_upd] at h1 h2
    split at h1 <;> split at h2
    · rename_i e1 e2; exact e1.symm.trans e2
    · rename_i e1 e2; subst e1
      simp only [Option.some.injEq, Prod.mk.injEq] at h1
      obtain ⟨rfl, rfl⟩ := h1
      rw [hA] at o1
      rw [hA' k2 n2 (Ne.symm e2)] at o2
      have hb2 := (h.imm b ⟨k2, n2, it2, h2, o2⟩).2
      rcases (hown b o1).2 with h3 | h3 | ⟨n, it', h3, h4⟩
      · omega
      · obtain ⟨n, it', h4, h5⟩ := hrow b h3
        exact h.apart k k2 n n2 it' it2 b h4 h2 h5 o2
      · exact h.apart k k2 n n2 it' it2 b h3 h2 h4 o2
    · rename_i e1 e2; subst e2
      simp only [Option.some.injEq, Prod.mk.injEq] at h2
      obtain ⟨rfl, rfl⟩ := h2
      rw [hA] at o2
      rw [hA' k1 n1 (Ne.symm e1)] at o1
      have hb2 := (h.imm b ⟨k1, n1, it1, h1, o1⟩).2
      rcases (hown b o2).2 with h3 | h3 | ⟨n, it', h3, h4⟩
      · omega
      · obtain ⟨n, it', h4, h5⟩ := hrow b h3
        exact (h.apart k k1 n n1 it' it1 b h4 h1 h5 o1).symm
      · exact (h.apart k k1 n n1 it' it1 b h3 h1 h4 o1).symm
    · rename_i e1 e2
      rw [hA' k1 n1 (Ne.symm e1)] at o1
      rw [hA' k2 n2 (Ne.symm e2)] at o2
      exact h.apart k1 k2 n1 n2 it1 it2 b h1 h2 o1 o2
  · rintro b hb
    rcases hOwn b hb with h1 | h1
    · exact ⟨(h.imm b h1).1, Nat.lt_of_lt_of_le (h.imm b h1).2 g.size⟩
    · refine ⟨fun hI => absurd (h.old b hI) (by omega), ?_⟩
      obtain ⟨k', n', it', hl, ho⟩ := hb
      rw [lk_upd] at hl
      split at hl
      · rename_i e; subst e
        simp only [Option.some.injEq, Prod.mk.injEq] at hl
        obtain ⟨rfl, rfl⟩ := hl
        rw [hA] at ho
        exact (hown b ho).1
      · rename_i e
        rw [hA' k' n' (Ne.symm e)] at ho
        have := (h.imm b ⟨k', n', it', hl, ho⟩).2
        omega
  · intro b hb; exact Nat.lt_of_lt_of_le (h.old b hb) g.size
  · intro b hb hn
    exact g.block b hb (fun e => hn (hrowO b e.symm))

/-- A place's thing turns in its place: the same in the model, another content. -/
theorem SlotsRel.turn {K : Kr} {σ : List (Nat × Nat × Item)} {w w' : World} (h : SlotsRel K σ w) (k n : Nat) (it it' : Item) (hk : lk σ k = some (n, it)) (row : Option Nat)
    (g : Grew w w' row) (hrow : ∀ b, row = some b → own it (K.A k n) = some b)
    (hown : ∀ b, own it' (K.A k n) = some b → own it (K.A k n) = some b)
    (hi : K.Le w K w' → IRel K w' it' (K.A k n)) :
    SlotsRel K (upd σ k (n, it')) w' ∧ Evo K σ w K (upd σ k (n, it')) w' := by
  have hrowO : ∀ b, row = some b → Owned K σ b := fun b hb => ⟨k, n, it, hk, hrow b hb⟩
  have st : Stays K.I w K.I w' := g.stays h (fun b hb => (h.imm b (hrowO b hb)).1)
  have le : K.Le w K w' := ⟨st, fun k => ⟨Nat.le_refl _, fun _ _ => rfl⟩⟩
  have back : ∀ k' n' it1, lk (upd σ k (n, it')) k' = some (n', it1) → ∀ b, own it1 (K.A k' n') = some b → ∃ it2, lk σ k' = some (n', it2) ∧ own it2 (K.A k' n') = some b := by
    intro k' n' it1 hl b hb
    rw [lk_upd] at hl
    split at hl
    · rename_i e; subst e
      simp only [Option.some.injEq, Prod.mk.injEq] at hl
      obtain ⟨rfl, rfl⟩ := hl
      exact ⟨it, hk, hown b hb⟩
    · exact ⟨it1, hl, hb⟩
  have hOwn : ∀ b, Owned K (upd σ k (n, it')) b → Owned K σ b := by
    rintro b ⟨k', n', it1, hl, ho⟩
    obtain ⟨it2, h1, h2⟩ := back k' n' it1 hl b ho
    exact ⟨k', n', it2, h1, h2⟩
  refine ⟨⟨?_, ?_, ?_, ?_, ?_⟩, ⟨le, g.os, g.tape, g.output, g.size, fun b hb hn => g.block b hb (fun e => hn (hrowO b e.symm)), fun b hb => .inl hb, fun b hb => .inl (hOwn b hb)⟩⟩
  · intro k' n' it1 hl
    rw [lk_upd] at hl
    split at hl
    · rename_i e; subst e
      simp only [Option.some.injEq, Prod.mk.injEq] at hl
      obtain ⟨rfl, rfl⟩ := hl
      exact ⟨(h.rel k n it hk).1, hi le⟩
    · rename_i e
      obtain ⟨h1, h2⟩ := h.rel k' n' it1 hl
      refine ⟨h1, h2.mono le fun b hb => g.block b (h.imm b ⟨k', n', it1, hl, hb⟩).2 (fun e' => ?_)⟩
      exact e (h.apart k k' n n' it it1 b hk hl (hrow b e'.symm) hb)
  · intro k' hl
    rw [lk_upd] at hl
    split at hl
    · cases hl
    · exact h.free k' hl
  · intro k1 k2 n1 n2 it1 it2 b h1 h2 o1 o2
    obtain ⟨j1, h3, h4⟩ := back k1 n1 it1 h1 b o1
    obtain ⟨j2, h5, h6⟩ := back k2 n2 it2 h2 b o2
    exact h.apart k1 k2 n1 n2 j1 j2 b h3 h5 h4 h6
  · intro b hb
    have := h.imm b (hOwn b hb)
    exact ⟨this.1, Nat.lt_of_lt_of_le this.2 g.size⟩
  · intro b hb; exact Nat.lt_of_lt_of_le (h.old b hb) g.size

/-- Blocks are fixed: new ones, or that of a place that is given up. -/
theorem SlotsRel.fix {K : Kr} {σ : List (Nat × Nat × Item)} {w w' : World} (h : SlotsRel K σ w) (g : Grew w w' none) (J : Nat → Prop)
    (hJ : ∀ b, J b → w.heap.size ≤ b ∧ b < w'.heap.size) :
    SlotsRel { K with I := fun b => K.I b ∨ J b } σ w' ∧ Evo K σ w { K with I := fun b => K.I b ∨ J b } σ w' := by
  have le : K.Le w { K with I := fun b => K.I b ∨ J b } w' :=
    ⟨⟨fun b hb => .inl hb, fun b hb => g.block b (h.old b hb) (by simp)⟩, fun k => ⟨Nat.le_refl _, fun _ _ => rfl⟩⟩
  refine ⟨⟨fun k n it hl => ?_, h.free, h.apart, fun b hb => ?_, fun b hb => ?_⟩, ⟨le, g.os, g.tape, g.output, g.size, fun b hb _ => g.block b hb (by simp), fun b hb => ?_, fun b hb => .inl hb⟩⟩
  · obtain ⟨h1, h2⟩ := h.rel k n it hl
    exact ⟨h1, h2.mono le fun b hb => g.block b (h.imm b ⟨k, n, it, hl, hb⟩).2 (by simp)⟩
  · have := h.imm b hb
    refine ⟨?_, Nat.lt_of_lt_of_le this.2 g.size⟩
    rintro (h1 | h1)
    · exact this.1 h1
    · have := hJ b h1; omega
  · rcases hb with h1 | h1
    · exact Nat.lt_of_lt_of_le (h.old b h1) g.size
    · exact (hJ b h1).2
  · rcases hb with h1 | h1
    · exact .inl h1
    · exact .inr (.inr (hJ b h1).1)

/-- The world has grown, nothing else. -/
theorem SlotsRel.grew {K : Kr} {σ : List (Nat × Nat × Item)} {w w' : World} (h : SlotsRel K σ w) (g : Grew w w' none) : SlotsRel K σ w' ∧ Evo K σ w K σ w' := by
  have := h.fix g (fun _ => False) (fun _ h => h.elim)
  simpa using this

end Go.Proofs.YtdlgenppdgkacaaGreatDoor.Ag
