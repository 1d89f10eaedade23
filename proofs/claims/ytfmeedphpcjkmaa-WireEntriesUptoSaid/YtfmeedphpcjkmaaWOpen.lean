/- Entries that came in. -/
import Derived.Test.YtfmeedphpcjkmaaAgO
import Derived.Test.YtfmeedphpcjkmaaWLaw11
set_option linter.unusedVariables false
set_option linter.unusedSimpArgs false
namespace Go.Proofs.Ytfmeedphpcjkmaa.Ag
def plainW : List TypeId := [3, 5, 22, 23, 56, 60]
theorem plainW_ok : plainSet Try.prog plainW = true := by kernel_rfl
theorem shp_ent {n : Nat} {x : IV} (h : Shp Try.prog n 60 x) : ∃ e : Ent, x = encE e ∧ e.n < 18446744073709551616 ∧ e.b.length + 5 ≤ ivBulk x := by
  obtain ⟨m, ys, rfl, hf⟩ := shp_rec Try.underlying60 h
  match ys, hf with
  | [a, b, c, d], ⟨h1, h2, h3, h4, _⟩ =>
    obtain ⟨n1, rfl, w1⟩ := shp_int Try.underlying3 h1
    obtain ⟨n2, rfl, w2⟩ := shp_int Try.underlying3 h2
    obtain ⟨n3, rfl, w3⟩ := shp_int Try.underlying22 h3
    obtain ⟨bs, rfl, hb⟩ := shp_bytes Try.underlying23 Try.underlying5 h4
    have hr : 0 ≤ n3 ∧ n3 ≤ 18446744073709551615 := by simpa [Lit.wf, IntKind.min, IntKind.max, IntKind.signed, IntKind.bits] using w3
    refine ⟨⟨n1, n2, n3.toNat, bs⟩, ?_, by simp only; omega, ?_⟩
    · simp [flat, IV.cells, encE]; omega
    · simp [flat, IV.cells, ivBulk, ivBulks] at hb ⊢; omega
theorem shp_ents {n : Nat} {x : IV} (h : Shp Try.prog n 56 x) : ∃ l : List Ent, x = encEs l ∧ (∀ e ∈ l, e.n < 18446744073709551616) ∧ szEs l ≤ 8 * ivBulk x := by
  obtain ⟨m, xs, rfl, hx⟩ := shp_slice Try.underlying56 h
  have key : ∀ (xs : List IV), (∀ y ∈ xs, Shp Try.prog m 60 y) → ∃ l : List Ent, xs = l.map encE ∧ (∀ e ∈ l, e.n < 18446744073709551616) ∧ szEs l ≤ 8 * ivBulks xs := by
    intro xs
    induction xs with
    | nil => exact fun _ => ⟨[], rfl, by simp, by simp [szEs]⟩
    | cons y ys ih =>
      intro h
      obtain ⟨l, rfl, h1, h2⟩ := ih fun z hz => h z (by simp [hz])
      obtain ⟨e, rfl, h3, h4⟩ := shp_ent (h y (by simp))
      refine ⟨e :: l, rfl, fun z hz => ?_, ?_⟩
      · rcases List.mem_cons.1 hz with rfl | hz
        · exact h3
        · exact h1 z hz
      · rw [szEs_cons]; simp only [ivBulks]; omega
  obtain ⟨l, rfl, h1, h2⟩ := key xs hx
  exact ⟨l, rfl, h1, by simp only [ivBulk]; omega⟩
theorem okEs_of {l : List Ent} (h1 : ∀ e ∈ l, e.n < 18446744073709551616) (h2 : szEs l ≤ 1000000000) : okEs l = true := by
  simp only [okEs, Bool.and_eq_true, List.all_eq_true, decide_eq_true_eq]
  exact ⟨h1, h2⟩
theorem u64_wf {n : Int} (h : (Lit.int .u64 n).wf = true) : ∃ m : Nat, n = m ∧ m < 18446744073709551616 := by
  have hr : 0 ≤ n ∧ n ≤ 18446744073709551615 := by simpa [Lit.wf, IntKind.min, IntKind.max, IntKind.signed, IntKind.bits] using h
  exact ⟨n.toNat, by omega, by omega⟩
end Go.Proofs.Ytfmeedphpcjkmaa.Ag
