/- Tables that came in. -/
import Derived.Test.YtmdkcapbahjipaaDoorAgO
import Derived.Test.YtmdkcapbahjipaaDoorTSL
import Derived.Test.YtmdkcapbahjipaaDoorProg
set_option linter.unusedVariables false
set_option linter.unusedSimpArgs false
namespace Go.Proofs.YtmdkcapbahjipaaDoor.Ag
def plainT7 : List TypeId := [3, 4, 9, 24, 22, 67, 62, 33, 63, 64, 92, 65, 110]
theorem plainT7_ok : plainSet Tryd.prog plainT7 = true := by kernel_rfl
theorem list_enc {α : Type} {enc : α → IV} : ∀ {xs : List IV}, (∀ y ∈ xs, ∃ a, y = enc a) → ∃ l : List α, xs = l.map enc
  | [], _ => ⟨[], rfl⟩
  | y :: ys, h => by
    obtain ⟨a, rfl⟩ := h y (by simp)
    obtain ⟨l, rfl⟩ := list_enc (xs := ys) fun z hz => h z (by simp [hz])
    exact ⟨a :: l, rfl⟩
theorem shp_str {P : Program} {n : Nat} {t : TypeId} {x : IV} (hu : P.underlying t = some .string) (h : Shp P n t x) : ∃ s : ByteArray, x = .str s := by
  cases n with
  | zero => exact h.elim
  | succ n => simp only [Shp, hu] at h; obtain ⟨s, rfl, _⟩ := h; exact ⟨s, rfl⟩
theorem shp_bool {P : Program} {n : Nat} {t : TypeId} {x : IV} (hu : P.underlying t = some .bool) (h : Shp P n t x) : ∃ b, x = .bool b := by
  cases n with
  | zero => exact h.elim
  | succ n => simp only [Shp, hu] at h; exact h
theorem shp_sym {n : Nat} {x : IV} (h : Shp Tryd.prog n 92 x) : ∃ s : Sym, x = encSym s := by
  obtain ⟨m, ys, rfl, hf⟩ := shp_rec Tryd.underlying92 h
  match ys, hf with
  | [a, b], ⟨h1, h2, _⟩ =>
    obtain ⟨s, rfl⟩ := shp_str Tryd.underlying9 h1
    obtain ⟨k, rfl, _⟩ := shp_int Tryd.underlying3 h2
    exact ⟨⟨s, k⟩, by simp [flat, IV.cells, encSym]⟩
theorem shp_rng {n : Nat} {x : IV} (h : Shp Tryd.prog n 110 x) : ∃ s : Rng, x = encRng s := by
  obtain ⟨m, ys, rfl, hf⟩ := shp_rec Tryd.underlying110 h
  match ys, hf with
  | [a, b], ⟨h1, h2, _⟩ =>
    obtain ⟨k, rfl, _⟩ := shp_int Tryd.underlying3 h1
    obtain ⟨l, rfl, _⟩ := shp_int Tryd.underlying3 h2
    exact ⟨⟨k, l⟩, by simp [flat, IV.cells, encRng]⟩
theorem shp_ft {n : Nat} {x : IV} (h : Shp Tryd.prog n 33 x) : ∃ f : FT, x = encFT f := by
  obtain ⟨m, ys, rfl, hf⟩ := shp_rec Tryd.underlying33 h
  match ys, hf with
  | [a, b, c, d, e, f, g], ⟨h1, h2, h3, h4, h5, h6, h7, _⟩ =>
    obtain ⟨s, rfl⟩ := shp_str Tryd.underlying9 h1
    obtain ⟨n2, rfl, _⟩ := shp_int Tryd.underlying3 h2
    obtain ⟨n3, rfl, _⟩ := shp_int Tryd.underlying3 h3
    obtain ⟨n4, rfl, _⟩ := shp_int Tryd.underlying3 h4
    obtain ⟨n5, rfl, _⟩ := shp_int Tryd.underlying3 h5
    obtain ⟨n6, rfl, _⟩ := shp_int Tryd.underlying3 h6
    obtain ⟨n7, rfl, _⟩ := shp_int Tryd.underlying3 h7
    exact ⟨⟨s, n2, n3, n4, n5, n6, n7⟩, by simp [flat, IV.cells, encFT]⟩
theorem shp_ty {n : Nat} {x : IV} (h : Shp Tryd.prog n 67 x) : ∃ y : Ty, x = encTy y := by
  obtain ⟨m, ys, rfl, hf⟩ := shp_rec Tryd.underlying67 h
  match ys, hf with
  | [a, b, c, d, e, f], ⟨h1, h2, h3, h4, h5, h6, _⟩ =>
    obtain ⟨s, rfl⟩ := shp_str Tryd.underlying9 h1
    obtain ⟨e, rfl⟩ := shp_bool Tryd.underlying4 h2
    obtain ⟨_, x3, rfl, g3⟩ := shp_slice Tryd.underlying62 h3
    obtain ⟨l3, rfl⟩ := list_enc (enc := encFT) fun y hy => shp_ft (g3 y hy)
    obtain ⟨_, x4, rfl, g4⟩ := shp_slice Tryd.underlying63 h4
    obtain ⟨l4, rfl⟩ := list_enc (enc := IV.str) fun y hy => shp_str Tryd.underlying9 (g4 y hy)
    obtain ⟨_, x5, rfl, g5⟩ := shp_slice Tryd.underlying64 h5
    obtain ⟨l5, rfl⟩ := list_enc (enc := encSym) fun y hy => shp_sym (g5 y hy)
    obtain ⟨_, x6, rfl, g6⟩ := shp_slice Tryd.underlying65 h6
    obtain ⟨l6, rfl⟩ := list_enc (enc := encRng) fun y hy => shp_rng (g6 y hy)
    exact ⟨⟨s, e, l3, l4, l5, l6⟩, by simp [flat, IV.cells, encTy]⟩
theorem ivBulks_mem : ∀ {xs : List IV} {x : IV}, x ∈ xs → ivBulk x ≤ ivBulks xs
  | [], _, h => by cases h
  | y :: ys, x, h => by
    simp only [ivBulks]
    rcases List.mem_cons.1 h with rfl | h
    · omega
    · have := ivBulks_mem h; omega
theorem str_bulk (s : ByteArray) : ivBulk (.str s) = s.size + 1 := by
  have : s.size = s.data.toList.length := (Array.length_toList (xs := s.data)).symm
  simp only [ivBulk]; omega
theorem ft_bulk (f : FT) : f.name.size ≤ ivBulk (encFT f) := by
  have := str_bulk f.name
  simp only [encFT, ivBulk, ivBulks] at this ⊢; omega
theorem sym_bulk (f : Sym) : f.name.size ≤ ivBulk (encSym f) := by
  have := str_bulk f.name
  simp only [encSym, ivBulk, ivBulks] at this ⊢; omega
theorem ty_ok {x : Ty} (h : ivBulk (encTy x) ≤ 2000000) : okTy x := by
  have h0 := str_bulk x.name
  simp only [encTy] at h
  rw [ivBulk] at h
  simp only [ivBulks] at h
  have e3 : ivBulk (.slice (x.fields.map encFT)) = ivBulks (x.fields.map encFT) + 1 := by simp only [ivBulk]
  have e4 : ivBulk (.slice (x.oneofs.map .str)) = ivBulks (x.oneofs.map .str) + 1 := by simp only [ivBulk]
  have e5 : ivBulk (.slice (x.syms.map encSym)) = ivBulks (x.syms.map encSym) + 1 := by simp only [ivBulk]
  have e6 : ivBulk (.slice (x.rsv.map encRng)) = ivBulks (x.rsv.map encRng) + 1 := by simp only [ivBulk]
  have l3 := ivBulks_len (x.fields.map encFT)
  have l4 := ivBulks_len (x.oneofs.map IV.str)
  have l5 := ivBulks_len (x.syms.map encSym)
  have l6 := ivBulks_len (x.rsv.map encRng)
  rw [List.length_map] at l3 l4 l5 l6
  refine ⟨by omega, by omega, by omega, by omega, by omega, fun f hf => ?_, fun o ho => ?_, fun s hs => ?_⟩
  · have h1 := ft_bulk f
    have h2 := ivBulks_mem (List.mem_map_of_mem (f := encFT) hf)
    omega
  · have h1 := str_bulk o
    have h2 := ivBulks_mem (List.mem_map_of_mem (f := IV.str) ho)
    omega
  · have h1 := sym_bulk s
    have h2 := ivBulks_mem (List.mem_map_of_mem (f := encSym) hs)
    omega
theorem t_ok {t : List Ty} (h : ivBulk (encTable t) ≤ 2000000) : okT t := by
  simp only [encTable] at h
  rw [ivBulk] at h
  simp only [ivBulks] at h
  have e : ivBulk (.slice (t.map encTy)) = ivBulks (t.map encTy) + 1 := by simp only [ivBulk]
  have l := ivBulks_len (t.map encTy)
  rw [List.length_map] at l
  refine ⟨by omega, fun x hx => ty_ok ?_⟩
  have := ivBulks_mem (List.mem_map_of_mem (f := encTy) hx)
  omega
theorem shp_table {n : Nat} {x : IV} (h : Shp Tryd.prog n 24 x) : ∃ t : List Ty, x = encTable t ∧ (ivBulk x ≤ 2000000 → okT t) := by
  obtain ⟨m, ys, rfl, hf⟩ := shp_rec Tryd.underlying24 h
  match ys, hf with
  | [a], ⟨h1, _⟩ =>
    obtain ⟨_, xs, rfl, g⟩ := shp_slice Tryd.underlying22 h1
    obtain ⟨l, rfl⟩ := list_enc (enc := encTy) fun y hy => shp_ty (g y hy)
    have e : IV.agg (flat [.slice (l.map encTy)]) = encTable l := by simp [flat, IV.cells, encTable]
    exact ⟨l, e, fun hb => t_ok (by rw [← e]; exact hb)⟩
end Go.Proofs.YtmdkcapbahjipaaDoor.Ag
