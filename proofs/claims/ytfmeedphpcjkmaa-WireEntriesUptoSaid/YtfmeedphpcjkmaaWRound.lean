/- What was put is got: varints, words, chunks, entries, lists. Plain lists, no program. -/
import Derived.Test.YtfmeedphpcjkmaaWSplit2
set_option linter.unusedVariables false
set_option linter.unusedSimpArgs false
namespace Go.Proofs.Ytfmeedphpcjkmaa.Ag

theorem gvL_put (c : List UInt8) : ∀ (k n i m : Nat), n ≤ k → n * 128 ^ i < 18446744073709551616 → i ≤ 9 → gvL (pvL n ++ c) i m = (m + n * 128 ^ i, i + (pvL n).length, 0) := by
  intro k
  induction k using Nat.strongRecOn with
  | _ k ih =>
    intro n i m hk hn hi
    have h9 : i = 9 → n < 2 := by
      rintro rfl
      rcases Nat.lt_or_ge n 2 with h | h
      · exact h
      · have : 2 * 128 ^ 9 ≤ n * 128 ^ 9 := Nat.mul_le_mul_right _ h
        omega
    by_cases hs : n < 128
    · rw [pvL_small hs]
      have hb : (UInt8.ofNat n).toNat = n := by simp; omega
      simp only [List.cons_append, List.nil_append, gvL, hb, List.length_cons, List.length_nil]
      rw [if_neg (by rintro ⟨h1, h2⟩; have := h9 h1; omega), if_pos hs, Nat.mod_eq_of_lt hs]
    · rw [pvL_big (by omega)]
      have hb : (UInt8.ofNat (n % 128 + 128)).toNat = n % 128 + 128 := by simp; omega
      have hlt : i < 9 := by
        rcases Nat.lt_or_ge i 9 with h | h
        · exact h
        · have : i = 9 := by omega
          have := h9 this; omega
      have hdiv : n / 128 * 128 ^ (i + 1) ≤ n * 128 ^ i := by
        rw [Nat.pow_succ, Nat.mul_comm (128 ^ i) 128, ← Nat.mul_assoc]
        exact Nat.mul_le_mul_right _ (Nat.div_mul_le_self n 128)
      have := ih (n / 128) (by have := Nat.div_lt_self (n := n) (k := 128) (by omega) (by omega); omega) (n / 128) (i + 1) (m + (n % 128 + 128) % 128 * 128 ^ i) (Nat.le_refl _) (by omega) (by omega)
      simp only [List.cons_append, gvL, hb, List.length_cons]
      rw [if_neg (by omega), if_neg (by omega), this]
      have e1 : (n % 128 + 128) % 128 = n % 128 := by omega
      have e2 : n % 128 * 128 ^ i + n / 128 * 128 ^ (i + 1) = n * 128 ^ i := by
        rw [Nat.pow_succ, Nat.mul_comm (128 ^ i) 128, ← Nat.mul_assoc, ← Nat.add_mul]
        congr 1
        omega
      rw [e1]
      congr 1
      · omega
      · congr 1
        omega
theorem gvAt_put (a c : List UInt8) {n : Nat} (hn : n < 18446744073709551616) : gvAt (a ++ (pvL n ++ c)) a.length = (n, a.length + (pvL n).length, 0) := by
  refine gvAt_ok (by simp) ?_
  rw [List.drop_left]
  have := gvL_put c n n 0 0 (Nat.le_refl _) (by simpa using hn) (by omega)
  simpa using this
theorem leN_wdL (n : Nat) : ∀ s, leN (wdL n s) = n % 256 ^ s
  | 0 => by simp [wdL, leN, Nat.mod_one]
  | s + 1 => by
    rw [wdL, leN_append, leN_wdL n s, wdL_len, Nat.pow_succ, Nat.mod_mul]
    have : (UInt8.ofNat (n / 256 ^ s % 256)).toNat = n / 256 ^ s % 256 := by simp
    rw [this, Nat.mul_comm]
theorem rdAt_put (a c : List UInt8) {n : Nat} (s : Nat) (hn : n < 256 ^ s) : rdAt (a ++ (wdL n s ++ c)) a.length s = (n, a.length + s, 0) := by
  unfold rdAt
  rw [if_pos (by simp; omega)]
  simp only [Int.toNat_natCast, List.drop_left]
  rw [if_neg (by simp [wdL_len]), List.take_left' (wdL_len n s)]
  congr 1
  rw [leN_wdL]; exact Nat.mod_eq_of_lt hn
theorem spAt_put (a c d : List UInt8) (hd : d.length < 18446744073709551616) : spAt (a ++ (pcL d ++ c)) a.length = (a.length + (pvL d.length).length, a.length + (pcL d).length, 0) := by
  have h := gvAt_put a (d ++ c) hd
  have e : a ++ (pvL d.length ++ (d ++ c)) = a ++ (pcL d ++ c) := by simp [pcL]
  rw [e] at h
  unfold spAt
  rw [h]
  unfold spT
  simp only [if_true]
  rw [if_neg (by simp [pcL]; omega)]
  simp [pcL, Nat.add_assoc]
theorem gcAt_put (a c d : List UInt8) (hd : d.length < 18446744073709551616) : gcAt (a ++ (pcL d ++ c)) a.length = (d, a.length + (pcL d).length, 0) := by
  unfold gcAt
  rw [spAt_put a c d hd]
  unfold gcT
  simp only [if_true]
  congr 1
  have e : a ++ (pcL d ++ c) = (a ++ pvL d.length) ++ (d ++ c) := by simp [pcL]
  rw [e, List.drop_left' (by simp)]
  rw [List.take_left' (by simp [pcL]; omega)]
/-- What PutEntry lets by. -/
theorem peS_ok {e : Ent} (h : (peS e).2 = 0) : 1 ≤ e.num ∧ e.num ≤ 536870911 ∧ isK e.kind = true ∧ fineE e = true ∧ (peS e).1 = tagE e ++ bodyE e := by
  unfold peS at h ⊢
  by_cases h1 : e.num < 1 ∨ 536870911 < e.num
  · rw [if_pos h1] at h; simp at h
  · rw [if_neg h1] at h ⊢
    cases h2 : isK e.kind with
    | false => rw [h2] at h; simp at h
    | true =>
      rw [h2] at h
      cases h3 : fineE e with
      | false => rw [h3] at h; simp at h
      | true => exact ⟨by omega, by omega, rfl, rfl, by simp⟩
theorem geAt_put (a c : List UInt8) {e : Ent} (hn : e.n < 18446744073709551616) (hb : e.b.length < 18446744073709551616) (h : (peS e).2 = 0) : geAt (a ++ ((peS e).1 ++ c)) a.length = (e, a.length + (peS e).1.length, 0) := by
  obtain ⟨h1, h2, h3, h4, h5⟩ := peS_ok h
  rw [h5]
  obtain ⟨num, kind, n, b⟩ := e
  simp only at hn hb h1 h2 h3
  obtain ⟨m, rfl⟩ := Int.eq_ofNat_of_zero_le (by omega : 0 ≤ num)
  have hk7 := isK_le h3
  obtain ⟨k, rfl⟩ := Int.eq_ofNat_of_zero_le hk7.1
  have ht : ((m : Int) * 8 + (k : Int)).toNat = m * 8 + k := by omega
  simp only [tagE, ht]
  generalize hB : bodyE { num := (m : Int), kind := (k : Int), n := n, b := b } = B
  have hg := gvAt_put a (B ++ c) (n := m * 8 + k) (by omega)
  have hgt : gtAt (a ++ (pvL (m * 8 + k) ++ (B ++ c))) a.length = (m, k, a.length + (pvL (m * 8 + k)).length, 0) := by
    unfold gtAt
    rw [hg]
    unfold gtT
    have e1 : (m * 8 + k) / 8 = m := by omega
    have e2 : (m * 8 + k) % 8 = k := by omega
    simp only [e1, e2, if_true]
    rw [if_neg (by omega), if_pos h3]
  have happ : a ++ (pvL (m * 8 + k) ++ B ++ c) = a ++ (pvL (m * 8 + k) ++ (B ++ c)) := by simp
  rw [happ]
  unfold geAt
  rw [hgt]
  simp only [if_true]
  have hpl : ((a.length + (pvL (m * 8 + k)).length : Nat) : Int) = (((a ++ pvL (m * 8 + k)).length : Nat) : Int) := by simp
  have hap2 : a ++ (pvL (m * 8 + k) ++ (B ++ c)) = (a ++ pvL (m * 8 + k)) ++ (B ++ c) := by simp
  unfold restAt
  rw [hap2, hpl]
  have hkk : k = 0 ∨ k = 1 ∨ k = 2 ∨ k = 5 := by
    simp only [isK, Bool.or_eq_true, decide_eq_true_eq] at h3; omega
  rcases hkk with rfl | rfl | rfl | rfl
  · simp only [bodyE] at hB
    simp at hB; subst hB
    simp [fineE] at h4
    rw [if_pos rfl, gvAt_put _ c hn]
    simp [fin3, h4, Nat.add_assoc]
  · simp only [bodyE] at hB
    simp at hB; subst hB
    simp [fineE] at h4
    rw [if_neg (by omega), if_pos rfl, rdAt_put _ c 8 (by simpa using hn)]
    simp [fin3, h4, wdL_len, Nat.add_assoc]
  · simp only [bodyE] at hB
    simp at hB; subst hB
    simp [fineE] at h4
    rw [if_neg (by omega), if_neg (by omega), if_neg (by omega), gcAt_put _ c b hb]
    simp [finC, h4, Nat.add_assoc]
  · simp only [bodyE] at hB
    simp at hB; subst hB
    simp [fineE] at h4
    rw [if_neg (by omega), if_neg (by omega), if_pos rfl, rdAt_put _ c 4 (by simp; omega)]
    simp [fin3, h4, wdL_len, Nat.add_assoc]
theorem peS_pos {e : Ent} (h : (peS e).2 = 0) : 0 < (peS e).1.length := by
  obtain ⟨h1, h2, h3, h4, h5⟩ := peS_ok h
  rw [h5, tagE]
  have : 0 < (pvL (e.num * 8 + e.kind).toNat).length := by
    rw [pvL]; split <;> simp
  simp; omega

/-! ### lists -/
theorem jnF_acc : ∀ (l : List Ent) (acc : List UInt8), (∀ e ∈ l, (peS e).2 = 0) → jnF l acc = (acc ++ (l.map fun e => (peS e).1).flatten, 0)
  | [], acc, _ => by simp [jnF]
  | e :: l, acc, h => by
    rw [jnF, if_pos (h e (by simp)), jnF_acc l _ fun x hx => h x (by simp [hx])]
    simp
theorem jnF_ok : ∀ (l : List Ent) (acc : List UInt8), (jnF l acc).2 = 0 → ∀ e ∈ l, (peS e).2 = 0
  | [], acc, _ => by simp
  | e :: l, acc, h => by
    rw [jnF] at h
    by_cases he : (peS e).2 = 0
    · rw [if_pos he] at h
      intro x hx
      rcases List.mem_cons.1 hx with rfl | hx
      · exact he
      · exact jnF_ok l _ h x hx
    · rw [if_neg he] at h; exact absurd h he
def bytesOf' (l : List Ent) : List UInt8 := (l.map fun e => (peS e).1).flatten
theorem spF_put (l : List Ent) (hl : ∀ e ∈ l, e.n < 18446744073709551616 ∧ e.b.length < 18446744073709551616 ∧ (peS e).2 = 0) : ∀ (a : List UInt8) (acc : List Ent) (f : Nat), (bytesOf' l).length < f → spF (a ++ bytesOf' l) f a.length acc = (acc ++ l, 0) := by
  induction l with
  | nil =>
    intro a acc f hf
    obtain ⟨f, rfl⟩ : ∃ g, f = g + 1 := ⟨f - 1, by omega⟩
    rw [spF, if_neg (by simp [bytesOf'])]
    simp
  | cons e l ih =>
    intro a acc f hf
    obtain ⟨f, rfl⟩ : ∃ g, f = g + 1 := ⟨f - 1, by omega⟩
    obtain ⟨h1, h2, h3⟩ := hl e (by simp)
    have hp := peS_pos h3
    have eb : bytesOf' (e :: l) = (peS e).1 ++ bytesOf' l := by simp [bytesOf']
    have hg := geAt_put a (bytesOf' l) h1 h2 h3
    rw [eb, List.length_append] at hf
    rw [spF, eb, if_pos (by simp; omega), hg]
    simp only [if_true]
    have := ih (fun x hx => hl x (by simp [hx])) (a ++ (peS e).1) (acc ++ [e]) f (by omega)
    rw [List.append_assoc, List.length_append] at this
    rw [this]
    simp
theorem spL_put (l : List Ent) (hl : ∀ e ∈ l, e.n < 18446744073709551616 ∧ e.b.length < 18446744073709551616 ∧ (peS e).2 = 0) : spL (bytesOf' l) = (l, 0) := by
  have := spF_put l hl [] [] ((bytesOf' l).length + 1) (by omega)
  simpa [spL] using this
end Go.Proofs.Ytfmeedphpcjkmaa.Ag
