/- A call's own state without memory: its slots, the blocks that are its own; and how that stands to the model's frame and world. -/
import Derived.Test.YtdlgenppdgkacaaGreatDoorAg1
import Derived.Laws.AppendOwn
set_option linter.unusedVariables false
set_option linter.unusedSimpArgs false
namespace Go.Proofs.YtdlgenppdgkacaaGreatDoor.Ag

/-- What a slot holds. 'ifb c v': v where c is true, else nothing is known. 'loc k n off': a pointer into the box of place k (its n-th); 'lst k n': the list of place k; 'el': a pointer into one of its elements. -/
inductive TV where
  | iv (x : IV)
  | loc (k n off : Nat)
  | lst (k n : Nat)
  | el (k n sz i off : Nat)
  | mp (k n : Nat)
  | itr (k n : Nat)
  | sl (k n z i j : Nat) (full : Bool)
  | dead
  | ifb (c : Bool) (v : TV)
  | agg (cs : List TV)
  | tup (xs : List TV)
  | fn (f : Fn) (first captured : List TV)
  deriving Inhabited

/-- What kind of keys a map has. -/
inductive KKind where
  | int (k : IntKind)
  | str
  | bool
  deriving Inhabited, DecidableEq
def keyKind : IV → Option KKind
  | .int k _ => some (.int k)
  | .str _ => some .str
  | .bool _ => some .bool
  | _ => none
/-- What a place is. -/
inductive Item where
  | gone
  | froz (xs : List IV)
  | box (cs : List TV)
  | list (e sz : Nat) (xs : List IV)
  | tl (e sz : Nat) (cs : List TV)
  | map (kd : KKind) (es : List (IV × TV))
  | siter (s : ByteArray) (pos : Nat)
  | pre (xs ys : List IV)
  | sub (k n z i : Nat)
  | capI (k n c : Nat)
  deriving Inhabited

def lk {α : Type} : List (Nat × α) → Nat → Option α
  | [], _ => none
  | (k, a) :: l, t => if k = t then some a else lk l t
def upd {α : Type} : List (Nat × α) → Nat → α → List (Nat × α)
  | [], t, a => [(t, a)]
  | (k, b) :: l, t, a => if k = t then (k, a) :: l else (k, b) :: upd l t a

theorem lk_upd {α : Type} (l : List (Nat × α)) (t : Nat) (a : α) (u : Nat) : lk (upd l t a) u = if t = u then some a else lk l u := by
  induction l with
  | nil => simp [upd, lk]
  | cons x l ih =>
    obtain ⟨k, b⟩ := x
    simp only [upd]
    split
    · rename_i h; subst h
      simp only [lk]
      split <;> simp_all
    · simp only [lk, ih]
      split
      · rename_i h1; subst h1; rename_i h2; simp [Ne.symm h2]
      · rfl

theorem upd_upd {α : Type} (l : List (Nat × α)) (t : Nat) (a b : α) : upd (upd l t a) t b = upd l t b := by
  induction l with
  | nil => simp [upd]
  | cons x l ih =>
    obtain ⟨k, c⟩ := x
    simp only [upd]
    by_cases h : k = t
    · simp [h, upd]
    · simp [h, upd, ih]

structure St where
  ρ : List (Nat × TV)
  σ : List (Nat × Nat × Item) := []

def St.put (s : St) (d : Option Nat) (v : TV) : St :=
  match d with
  | some d => { s with ρ := (d, v) :: s.ρ }
  | none => s

/-- Which blocks are fixed; what each place's n-th thing is in the model; how many a place has had. -/
structure Kr where
  I : Nat → Prop
  A : Nat → Nat → Value
  V : Nat → Nat

inductive TRel (K : Kr) (w : World) : TV → Value → Prop
  | iv (x : IV) (v : Value) (h : Rel K.I w x v) : TRel K w (.iv x) v
  | loc (k n off b : Nat) (h : n < K.V k) (hA : K.A k n = .pointer (some ⟨b, 0, none⟩)) : TRel K w (.loc k n off) (.pointer (some ⟨b, off, none⟩))
  | lst (k n : Nat) (h : n < K.V k) : TRel K w (.lst k n) (K.A k n)
  | el (k n sz i off b len cap : Nat) (h : n < K.V k) (hA : K.A k n = .slice (some ⟨b, 0, none⟩) len cap) : TRel K w (.el k n sz i off) (.pointer (some ⟨b, i * sz + off, none⟩))
  | mp (k n : Nat) (h : n < K.V k) : TRel K w (.mp k n) (K.A k n)
  | itr (k n : Nat) (h : n < K.V k) : TRel K w (.itr k n) (K.A k n)
  | sl (k n z i j : Nat) (full : Bool) (A : Option Addr) (len cap c : Nat) (h : n < K.V k) (hA : K.A k n = .slice A len cap) (hij : i ≤ j) (hjc : j ≤ c) (hcc : c ≤ cap) (hf : full = true → c = cap) :
      TRel K w (.sl k n z i j full) (.slice (if c = i then A else A.map (·.add (i * z))) (j - i) (c - i))
  | dead : TRel K w .dead undef
  | ifb (c : Bool) (t : TV) (v : Value) (h : c = true → TRel K w t v) (h' : c = false → v = undef) : TRel K w (.ifb c t) v
  | agg (cs : List TV) (vs : Array Value) (hn : vs.size = cs.length) (ho : ∀ v ∈ vs, v.oneCell' = true)
      (hr : ∀ (q : Nat) (c : TV) (v : Value), cs[q]? = some c → vs[q]? = some v → TRel K w c v) : TRel K w (.agg cs) (.agg vs)
  | tup (xs : List TV) (vs : Array Value) (hn : vs.size = xs.length)
      (hr : ∀ (q : Nat) (c : TV) (v : Value), xs[q]? = some c → vs[q]? = some v → TRel K w c v) : TRel K w (.tup xs) (.tuple vs)
  | fn (f : Fn) (fs cs : List TV) (vf vc : Array Value) (hf : vf.size = fs.length) (hc : vc.size = cs.length)
      (hrf : ∀ (q : Nat) (c : TV) (v : Value), fs[q]? = some c → vf[q]? = some v → TRel K w c v)
      (hrc : ∀ (q : Nat) (c : TV) (v : Value), cs[q]? = some c → vc[q]? = some v → TRel K w c v) : TRel K w (.fn f fs cs) (.func f vf vc)

def Kr.Le (K : Kr) (w : World) (K' : Kr) (w' : World) : Prop :=
  Stays K.I w K'.I w' ∧ ∀ k, K.V k ≤ K'.V k ∧ ∀ n, n < K.V k → K'.A k n = K.A k n
theorem Kr.Le.refl (K : Kr) (w : World) : K.Le w K w := ⟨Stays.refl _ _, fun k => ⟨Nat.le_refl _, fun _ _ => rfl⟩⟩
theorem Kr.Le.trans {K K' K'' : Kr} {w w' w'' : World} (h : K.Le w K' w') (h' : K'.Le w' K'' w'') : K.Le w K'' w'' :=
  ⟨h.1.trans h'.1, fun k => ⟨Nat.le_trans (h.2 k).1 (h'.2 k).1, fun n hn => ((h'.2 k).2 n (Nat.lt_of_lt_of_le hn (h.2 k).1)).trans ((h.2 k).2 n hn)⟩⟩

theorem TRel.mono {K K' : Kr} {w w' : World} (h : K.Le w K' w') {t : TV} {v : Value} (r : TRel K w t v) : TRel K' w' t v := by
  induction r with
  | iv x v hr => exact .iv x v (hr.stays h.1)
  | loc k n off b hn hA => exact .loc k n off b (Nat.lt_of_lt_of_le hn (h.2 k).1) (((h.2 k).2 n hn).trans hA)
  | lst k n hn => exact ((h.2 k).2 n hn) ▸ .lst k n (Nat.lt_of_lt_of_le hn (h.2 k).1)
  | el k n sz i off b len cap hn hA => exact .el k n sz i off b len cap (Nat.lt_of_lt_of_le hn (h.2 k).1) (((h.2 k).2 n hn).trans hA)
  | mp k n hn => exact ((h.2 k).2 n hn) ▸ .mp k n (Nat.lt_of_lt_of_le hn (h.2 k).1)
  | itr k n hn => exact ((h.2 k).2 n hn) ▸ .itr k n (Nat.lt_of_lt_of_le hn (h.2 k).1)
  | sl k n z i j full A len cap c hn hA hij hjc hcc hf => exact .sl k n z i j full A len cap c (Nat.lt_of_lt_of_le hn (h.2 k).1) (((h.2 k).2 n hn).trans hA) hij hjc hcc hf
  | dead => exact .dead
  | ifb c t v hr h2 ih => exact .ifb c t v ih h2
  | agg cs vs hn ho hr ih => exact .agg cs vs hn ho ih
  | tup xs vs hn hr ih => exact .tup xs vs hn ih
  | fn f fs cs vf vc hf hc hrf hrc ihf ihc => exact .fn f fs cs vf vc hf hc ihf ihc

/-- The block that a place owns. -/
def own : Item → Value → Option Nat
  | .box _, .pointer (some a) => some a.block
  | .list _ _ _, v => v.ownBlock
  | .tl _ _ _, v => v.ownBlock
  | .map _ _, .map (some b) => some b
  | .siter _ _, .pointer (some a) => some a.block
  | _, _ => none

/-- A map's entries. -/
def EntriesRel (K : Kr) (w : World) (es : List (IV × TV)) (ms : Array MapEntry) : Prop :=
  ms.size = es.length ∧ ∀ (q : Nat) (x : IV × TV) (m : MapEntry), es[q]? = some x → ms[q]? = some m → Rel K.I w x.1 m.key ∧ TRel K w x.2 m.val

def IRel (K : Kr) (w : World) : Item → Value → Prop
  | .gone, _ => True
  | .froz xs, v => Rel K.I w (.slice xs) v
  | .box cs, v => ∃ b e vs, v = .pointer (some ⟨b, 0, none⟩) ∧ w.heap[b]? = some (.cells vs e (0, 0)) ∧ vs.size = cs.length ∧
      ∀ (q : Nat) (c : TV) (u : Value), cs[q]? = some c → vs[q]? = some u → TRel K w c u ∧ u.oneCell' = true
  | .list e sz xs, v => ∃ cvs, w.ownsRow 0 e sz v xs.length cvs ∧ (∀ x ∈ xs, x.cells.length = sz ∧ ∀ c ∈ x.cells, c.one = true) ∧
      ∀ (q : Nat) (c : IV) (u : Value), (flat xs)[q]? = some c → cvs[q]? = some u → Rel K.I w c u
  | .tl e sz cs, v => ∃ m cvs, 0 < sz ∧ cs.length = m * sz ∧ w.ownsRow 0 e sz v m cvs ∧ ∀ (q : Nat) (c : TV) (u : Value), cs[q]? = some c → cvs[q]? = some u → TRel K w c u ∧ u.oneCell' = true
  | .map kd es, v => ∃ b ms clock, v = .map (some b) ∧ w.heap[b]? = some (.map ms clock) ∧ EntriesRel K w es ms ∧ ∀ x ∈ es, keyKind x.1 = some kd
  | .siter s pos, v => ∃ b, v = .pointer (some ⟨b, 0, none⟩) ∧ w.heap[b]? = some (.stringIter s pos)
  | .pre xs ys, v => ∃ a cap, v = .slice a xs.length cap ∧ Rel K.I w (.slice xs) v ∧ xs.length + ys.length ≤ cap ∧ Rel K.I w (.slice (xs ++ ys)) (.slice a (xs.length + ys.length) cap)
  | .capI k n c, _ => n < K.V k ∧ ∃ A len cap, K.A k n = .slice A len cap ∧ c ≤ cap
  | .sub k n z i, v => n < K.V k ∧ ∃ A len cap, K.A k n = .slice A len cap ∧ i ≤ len ∧ len ≤ cap ∧ v = .slice (if cap = i then A else A.map (·.add (i * z))) (len - i) (cap - i)

theorem cell_of_block {w w' : World} {b : Nat} (h : w'.heap[b]? = w.heap[b]?) (o : Nat) : w'.cell? ⟨b, o, none⟩ = w.cell? ⟨b, o, none⟩ := by simp [World.cell?, h]

/-- A place stays what it is while its own block stays. -/
theorem IRel.mono {K K' : Kr} {w w' : World} (h : K.Le w K' w') {it : Item} {v : Value} (hb : ∀ b, own it v = some b → w'.heap[b]? = w.heap[b]?) (r : IRel K w it v) : IRel K' w' it v := by
  cases it with
  | gone => trivial
  | froz xs => exact Rel.stays h.1 r
  | box cs =>
    obtain ⟨b, e, vs, rfl, hh, hs, hr⟩ := r
    exact ⟨b, e, vs, rfl, (hb b rfl).trans hh, hs, fun q c u hc hu => ⟨(hr q c u hc hu).1.mono h, (hr q c u hc hu).2⟩⟩
  | list e sz xs =>
    obtain ⟨cvs, ho, hs, hr⟩ := r
    refine ⟨cvs, ?_, hs, fun q c u hc hu => (hr q c u hc hu).stays h.1⟩
    refine ⟨ho.1, ?_⟩
    rcases ho.2 with h0 | ⟨g, cap, cur, hv, hg, hh, rest⟩
    · exact .inl h0
    · subst hv
      exact .inr ⟨g, cap, cur, rfl, hg, (hb g rfl).trans hh, rest⟩
  | tl e sz cs =>
    obtain ⟨m, cvs, h0, hl, ho, hr⟩ := r
    refine ⟨m, cvs, h0, hl, ?_, fun q c u hc hu => ⟨(hr q c u hc hu).1.mono h, (hr q c u hc hu).2⟩⟩
    refine ⟨ho.1, ?_⟩
    rcases ho.2 with h0 | ⟨g, cap, cur, hv, hg, hh, rest⟩
    · exact .inl h0
    · subst hv
      exact .inr ⟨g, cap, cur, rfl, hg, (hb g rfl).trans hh, rest⟩
  | map kd es =>
    obtain ⟨b, ms, clock, rfl, hh, he, hl⟩ := r
    exact ⟨b, ms, clock, rfl, (hb b rfl).trans hh, ⟨he.1, fun q x m hx hm => ⟨(he.2 q x m hx hm).1.stays h.1, (he.2 q x m hx hm).2.mono h⟩⟩, hl⟩
  | siter s pos =>
    obtain ⟨b, rfl, hh⟩ := r
    exact ⟨b, rfl, (hb b rfl).trans hh⟩
  | pre xs ys =>
    obtain ⟨a, cap, h1, h2, h3, h4⟩ := r
    exact ⟨a, cap, h1, h2.stays h.1, h3, h4.stays h.1⟩
  | capI k n c =>
    obtain ⟨hn, A, len, cap, hA, rest⟩ := r
    exact ⟨Nat.lt_of_lt_of_le hn (h.2 k).1, A, len, cap, ((h.2 k).2 n hn).trans hA, rest⟩
  | sub k n z i =>
    obtain ⟨hn, A, len, cap, hA, rest⟩ := r
    exact ⟨Nat.lt_of_lt_of_le hn (h.2 k).1, A, len, cap, ((h.2 k).2 n hn).trans hA, rest⟩

/-- The block 'b' is one of the call's own. -/
def Owned (K : Kr) (σ : List (Nat × Nat × Item)) (b : Nat) : Prop := ∃ k n it, lk σ k = some (n, it) ∧ own it (K.A k n) = some b

structure SlotsRel (K : Kr) (σ : List (Nat × Nat × Item)) (w : World) : Prop where
  rel : ∀ k n it, lk σ k = some (n, it) → K.V k = n + 1 ∧ IRel K w it (K.A k n)
  free : ∀ k, lk σ k = none → K.V k = 0
  apart : ∀ k k' n n' it it' b, lk σ k = some (n, it) → lk σ k' = some (n', it') → own it (K.A k n) = some b → own it' (K.A k' n') = some b → k = k'
  imm : ∀ b, Owned K σ b → ¬ K.I b ∧ b < w.heap.size
  old : ∀ b, K.I b → b < w.heap.size

structure SRel (N : Nat) (K : Kr) (s : St) (a : Act) (w : World) : Prop where
  size : a.tmps.size = N
  tmps : ∀ t v, lk s.ρ t = some v → ∃ u, a.tmps[t]? = some u ∧ TRel K w v u
  slots : SlotsRel K s.σ w

/-- From one state to the next: what is not the call's own stays. -/
structure Evo (K : Kr) (σ : List (Nat × Nat × Item)) (w : World) (K' : Kr) (σ' : List (Nat × Nat × Item)) (w' : World) : Prop where
  le : K.Le w K' w'
  os : w'.os = w.os
  tape : w'.tape = w.tape
  output : w'.output = w.output
  size : w.heap.size ≤ w'.heap.size
  rest : ∀ b, b < w.heap.size → ¬ Owned K σ b → w'.heap[b]? = w.heap[b]?
  newI : ∀ b, K'.I b → K.I b ∨ Owned K σ b ∨ w.heap.size ≤ b
  newO : ∀ b, Owned K' σ' b → Owned K σ b ∨ w.heap.size ≤ b

theorem Evo.refl (K : Kr) (σ : List (Nat × Nat × Item)) (w : World) : Evo K σ w K σ w :=
  ⟨Kr.Le.refl _ _, rfl, rfl, rfl, Nat.le_refl _, fun _ _ _ => rfl, fun _ h => .inl h, fun _ h => .inl h⟩

theorem Evo.trans {K K' K'' : Kr} {σ σ' σ'' : List (Nat × Nat × Item)} {w w' w'' : World} (h : Evo K σ w K' σ' w') (h' : Evo K' σ' w' K'' σ'' w'') :
    Evo K σ w K'' σ'' w'' := by
  refine ⟨h.le.trans h'.le, h'.os.trans h.os, h'.tape.trans h.tape, h'.output.trans h.output, Nat.le_trans h.size h'.size, ?_, ?_, ?_⟩
  · intro b hb hn
    have h1 := h.rest b hb hn
    refine (h'.rest b (Nat.lt_of_lt_of_le hb h.size) ?_).trans h1
    intro ho
    rcases h.newO b ho with h2 | h2
    · exact hn h2
    · omega
  · intro b hb
    rcases h'.newI b hb with h1 | h1 | h1
    · exact h.newI b h1
    · exact .inr (h.newO b h1)
    · exact .inr (.inr (Nat.le_trans h.size h1))
  · intro b hb
    rcases h'.newO b hb with h1 | h1
    · exact h.newO b h1
    · exact .inr (Nat.le_trans h.size h1)

end Go.Proofs.YtdlgenppdgkacaaGreatDoor.Ag
