/- From a row to a walk: what an argument that has been read is, without memory. -/
import Derived.Test.YtdlgenppdgkacaaGreatDoorAg16
import Derived.SizedLaws
import Derived.ChangeSlices
import Derived.ChangeOld
import Derived.WideShapes
import Derived.ChangeShapes
set_option linter.unusedVariables false
set_option linter.unusedSimpArgs false
namespace Go.Proofs.YtdlgenppdgkacaaGreatDoor.Ag
open Go.RowKit (Below)
open Go.ChangeShapes Go.WideShapes

/-- A law's call, out of its contract: it gives true; nothing below turns. -/
theorem FC.walk {P : Program} {f : FuncId} {args : List IV} (h : FC P f args (· = .bool true)) (W : World) (vs : Array Value) (hn : vs.size = args.length)
    (hr : ∀ (q : Nat) (c : IV) (v : Value), args[q]? = some c → vs[q]? = some v → Rel (fun b => b < W.heap.size) W c v) :
    Calls P f vs W fun e w' => e = .returned (.bool true) ∧ Below W.heap.size W w' := by
  refine (h (fun b => b < W.heap.size) W vs (fun b hb => hb) hn hr).mono ?_
  rintro e w' ⟨v, rfl, I', r, rfl, hrel, hb, _, _, _⟩
  cases hrel
  exact ⟨rfl, hb⟩

/-- The relations of a call's arguments, one by one. -/
def Rels (I : Nat → Prop) (w : World) : List IV → List Value → Prop
  | [], [] => True
  | c :: cs, v :: vs => Rel I w c v ∧ Rels I w cs vs
  | _, _ => False
theorem rels_list {I : Nat → Prop} {w : World} : ∀ {cs : List IV} {vs : List Value}, Rels I w cs vs → vs.length = cs.length ∧ ∀ (q : Nat) (c : IV) (v : Value), cs[q]? = some c → vs[q]? = some v → Rel I w c v
  | [], [], _ => ⟨rfl, fun q c v h => by simp at h⟩
  | c :: cs, v :: vs, h => by
    obtain ⟨h1, h2⟩ := h
    obtain ⟨h3, h4⟩ := rels_list h2
    refine ⟨by simp [h3], fun q c' v' g1 g2 => ?_⟩
    cases q with
    | zero => simp at g1 g2; subst g1; subst g2; exact h1
    | succ q => exact h4 q c' v' (by simpa using g1) (by simpa using g2)
  | [], _ :: _, h => h.elim
  | _ :: _, [], h => h.elim
theorem FC.walks {P : Program} {f : FuncId} {args : List IV} (h : FC P f args (· = .bool true)) (W : World) (vs : List Value) (hr : Rels (fun b => b < W.heap.size) W args vs) :
    Calls P f vs.toArray W fun e w' => e = .returned (.bool true) ∧ Below W.heap.size W w' :=
  h.walk W vs.toArray (by simpa using (rels_list hr).1) (fun q c v h1 h2 => (rels_list hr).2 q c v h1 (by simpa using h2))

theorem flat_bytes (bs : List UInt8) : flat (bs.map encB) = bs.map encB := by
  unfold flat
  induction bs with
  | nil => rfl
  | cons b bs ih => simp only [List.map_cons, List.flatMap_cons, ih, encB_cells]; rfl

theorem rel_row {W : World} {a : Addr} {len cap : Nat} {zs : List Int} (hl : len ≤ cap) (hz : zs.length = cap) (hcell : ∀ i, i < zs.length → W.cell? (a.add i) = some (.int .u8 (zs.getD i 0))) (hw : ∀ n ∈ zs, (Lit.int .u8 n).wf = true) :
    ∃ bs : List UInt8, bs.length = len ∧ Rel (fun b => b < W.heap.size) W (.slice (bs.map encB)) (.slice (some a) len cap) := by
  have hwn : ∀ n ∈ zs, 0 ≤ n ∧ n ≤ 255 := by
    intro n hn
    have := hw n hn
    simpa [Lit.wf, IntKind.min, IntKind.max, IntKind.signed, IntKind.bits] using this
  let bs := (zs.take len).map fun n => UInt8.ofNat n.toNat
  have hbl : bs.length = len := by simp [bs]; omega
  refine ⟨bs, hbl, ?_⟩
  rcases Nat.eq_zero_or_pos len with h0 | hpos
  · have : bs = [] := List.eq_nil_of_length_eq_zero (hbl.trans h0)
    rw [this, h0]
    exact .empty _ _
  obtain ⟨b, off, spot⟩ := a
  have h0c := hcell 0 (by omega)
  have hspot : spot = none ∧ b < W.heap.size := by
    unfold World.cell? Addr.add at h0c
    simp only at h0c
    split at h0c
    · rename_i c _ _ hh
      cases spot with
      | none => exact ⟨rfl, (Array.getElem?_eq_some_iff.1 hh).1⟩
      | some s => simp at h0c
    · cases h0c
  obtain ⟨rfl, hb⟩ := hspot
  have key : ∀ (q : Nat) (c : IV), (flat (bs.map encB))[q]? = some c → W.cell? ⟨b, off + q, none⟩ = some (Value.int .u8 (zs.getD q 0)) ∧ c = .int .u8 (zs.getD q 0) := by
    intro q c hq
    rw [flat_bytes, List.getElem?_map, Option.map_eq_some_iff] at hq
    obtain ⟨x, hx, rfl⟩ := hq
    have hql : q < len := by have := (List.getElem?_eq_some_iff.1 hx).1; omega
    refine ⟨by
      have h9 := hcell q (by omega)
      by_cases hq0 : q = 0
      · subst hq0; simpa [Addr.add] using h9
      · simpa [Addr.add, hq0] using h9, ?_⟩
    simp only [bs, List.getElem?_map, Option.map_eq_some_iff, List.getElem?_take, if_pos hql] at hx
    obtain ⟨n, hn, rfl⟩ := hx
    have hr := hwn n (List.mem_of_getElem? hn)
    have hd : zs.getD q 0 = n := by rw [List.getD_eq_getElem?_getD, hn]; rfl
    rw [hd, encB_ofNat' n.toNat (by omega)]
    congr 1; omega
  have hlen : (bs.map encB).length = len := by simp [hbl]
  rw [← hlen]
  refine Rel.slice (bs.map encB) b off cap 1 (fun q => .int .u8 (zs.getD q 0)) (by rw [hlen]; exact hl) ?_ hb (fun q c hq => (key q c hq).1) (fun q c hq => by rw [(key q c hq).2]; rfl) (fun q c hq => by rw [(key q c hq).2]; exact .int _ _)
  intro x hx
  obtain ⟨y, _, rfl⟩ := List.mem_map.1 hx
  rfl

section
variable {H : Type} {enc : TypeId × Value → H} {P : Program} {W : World}
/-- A slice of whole numbers that came in is no longer than the row's weights allow. -/
theorem len_ints {t e : TypeId} {k : IntKind} {base : Nat} {spare : Nat → Bool} {held : Bool} {a : Option Addr} {len cap : Nat} {d : DataW H} {ps : List MemPlace} {ts : List TypeId} {ds : List (DataW H)} {j : Nat}
    (hsz : (DataW.weightsEach P ts ds).all (· ≤ reachBytes) = true) (ht : ts[j]? = some t) (hd : ds[j]? = some d) (hu : P.underlying t = some (.slice e)) (he : P.underlying e = some (.int k)) (hc : P.cellsOf e = 1) (hB : P.bytesOf e = 1)
    (h : DataW.Trod enc P W base spare held t (.slice a len cap) d ps) : len ≤ 140737488351232 := by
  obtain ⟨fuel, hf⟩ := h
  rcases open_ints hu he hc hf with ⟨hcs, _⟩ | ⟨x, l, c, zs, hcs, _, hl, _, hz, hx, _, _⟩
  · simp [Value.cells] at hcs
    omega
  · simp [Value.cells] at hcs
    obtain ⟨rfl, rfl, rfl⟩ := hcs
    obtain ⟨hx, _⟩ := Prod.mk.inj hx
    subst hx
    have z := sized_slice hsz ht hd hu
    rw [hB] at z
    have hl2 : len ≤ zs.length := by
      rw [hz]
      split
      · exact hl
      · exact Nat.le_refl _
    have h1 : (lits (H := H) k (zs.take len)).length + (lits (H := H) k (zs.drop len)).length = zs.length := by
      simp [lits]
      omega
    rw [h1, Nat.mul_one] at z
    exact Nat.le_trans hl2 z

/-- A slice of bytes that came in. -/
theorem open_bytes {t e : TypeId} {base : Nat} {v : Value} {d : DataW H} {ps : List MemPlace} (ht : P.underlying t = some (.slice e)) (he : P.underlying e = some (.int .u8)) (hc : P.cellsOf e = 1)
    (hval : Value.okWide P W .any base t v) (h : DataW.Trod enc P W 0 (fun _ => true) true t v d ps) :
    ∃ (bs : List UInt8) (a : Option Addr) (cap : Nat), v = .slice a bs.length cap ∧ Rel (fun b => b < W.heap.size) W (.slice (bs.map encB)) v ∧ ∀ x ∈ ps, x.block < W.heap.size := by
  obtain ⟨a, len, cap, rfl⟩ := okWide_slice ht hval
  have hlt : ∀ x ∈ ps, x.block < W.heap.size := by obtain ⟨m, hm⟩ := h; exact DataW.trod_lt m _ _ _ hm
  obtain ⟨fuel, hf⟩ := h
  rcases open_ints ht he hc hf with ⟨hcs, _⟩ | ⟨x, l, c, zs, hcs, _, hl, hm, hz, _, hcell, hw⟩
  · simp [Value.cells] at hcs
    obtain ⟨rfl, rfl, rfl⟩ := hcs
    exact ⟨[], none, 0, rfl, .empty _ _, hlt⟩
  · simp [Value.cells] at hcs
    obtain ⟨rfl, rfl, rfl⟩ := hcs
    obtain ⟨bs, hbl, hr⟩ := rel_row hl (by simpa using hz) hcell hw
    exact ⟨bs, some x, cap, by rw [hbl], hr, hlt⟩
end
end Go.Proofs.YtdlgenppdgkacaaGreatDoor.Ag
