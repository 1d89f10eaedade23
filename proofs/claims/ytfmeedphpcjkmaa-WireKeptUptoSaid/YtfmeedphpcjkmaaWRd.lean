/- What was put is got: varints, words, chunks, entries, lists. Plain lists, no program. -/
import Derived.Test.YtfmeedphpcjkmaaWSplit2
set_option linter.unusedVariables false
set_option linter.unusedSimpArgs false
namespace Go.Proofs.Ytfmeedphpcjkmaa.Ag

theorem gvL_put (c : List UInt8) : ∀ (k n i m : Nat), n ≤ k → n * 128 ^ i < 18446744073709551616 → i ≤ 9 → gvL (pvL n ++ c) i m = (m + n * 128 ^ i, i + (pvL n).length, 0) := by
  intro k
  induction k using Nat.strongRecOn with
  | _ k ih =>
    intro n i m hk hn hi
    have h9 : i = 9 → n < 2 := by
      rintro rfl
      rcases Nat.lt_or_ge n 2 with h | h
      · exact h
      · have : 2 * 128 ^ 9 ≤ n * 128 ^ 9 := Nat.mul_le_mul_right _ h
        omega
    by_cases hs : n < 128
    · rw [pvL_small hs]
      have hb : (UInt8.ofNat n).toNat = n := by simp; omega
      simp only [List.cons_append, List.nil_append, gvL, hb, List.length_cons, List.length_nil]
      rw [if_neg (by rintro ⟨h1, h2⟩; have := h9 h1; omega), if_pos hs, Nat.mod_eq_of_lt hs]
    · rw [pvL_big (by omega)]
      have hb : (UInt8.ofNat (n % 128 + 128)).toNat = n % 128 + 128 := by simp; omega
      have hlt : i < 9 := by
        rcases Nat.lt_or_ge i 9 with h | h
        · exact h
        · have : i = 9 := by omega
          have := h9 this; omega
      have hdiv : n / 128 * 128 ^ (i + 1) ≤ n * 128 ^ i := by
        rw [Nat.pow_succ, Nat.mul_comm (128 ^ i) 128, ← Nat.mul_assoc]
        exact Nat.mul_le_mul_right _ (Nat.div_mul_le_self n 128)
      have := ih (n / 128) (by have := Nat.div_lt_self (n := n) (k := 128) (by omega) (by omega); omega) (n / 128) (i + 1) (m + (n % 128 + 128) % 128 * 128 ^ i) (Nat.le_refl _) (by omega) (by omega)
      simp only [List.cons_append, gvL, hb, List.length_cons]
      rw [if_neg (by omega), if_neg (by omega), this]
      have e1 : (n % 128 + 128) % 128 = n % 128 := by omega
      have e2 : n % 128 * 128 ^ i + n / 128 * 128 ^ (i + 1) = n * 128 ^ i := by
        rw [Nat.pow_succ, Nat.mul_comm (128 ^ i) 128, ← Nat.mul_assoc, ← Nat.add_mul]
        congr 1
        omega
      rw [e1]
      congr 1
      · omega
      · congr 1
        omega
theorem gvAt_put (a c : List UInt8) {n : Nat} (hn : n < 18446744073709551616) : gvAt (a ++ (pvL n ++ c)) a.length = (n, a.length + (pvL n).length, 0) := by
  refine gvAt_ok (by simp) ?_
  rw [List.drop_left]
  have := gvL_put c n n 0 0 (Nat.le_refl _) (by simpa using hn) (by omega)
  simpa using this
theorem leN_wdL (n : Nat) : ∀ s, leN (wdL n s) = n % 256 ^ s
  | 0 => by simp [wdL, leN, Nat.mod_one]
  | s + 1 => by
    rw [wdL, leN_append, leN_wdL n s, wdL_len, Nat.pow_succ, Nat.mod_mul]
    have : (UInt8.ofNat (n / 256 ^ s % 256)).toNat = n / 256 ^ s % 256 := by simp
    rw [this, Nat.mul_comm]
theorem rdAt_put (a c : List UInt8) {n : Nat} (s : Nat) (hn : n < 256 ^ s) : rdAt (a ++ (wdL n s ++ c)) a.length s = (n, a.length + s, 0) := by
  unfold rdAt
  rw [if_pos (by simp; omega)]
  simp only [Int.toNat_natCast, List.drop_left]
  rw [if_neg (by simp [wdL_len]), List.take_left' (wdL_len n s)]
  congr 1
  rw [leN_wdL]; exact Nat.mod_eq_of_lt hn
theorem spAt_put (a c d : List UInt8) (hd : d.length < 18446744073709551616) : spAt (a ++ (pcL d ++ c)) a.length = (a.length + (pvL d.length).length, a.length + (pcL d).length, 0) := by
  have h := gvAt_put a (d ++ c) hd
  have e : a ++ (pvL d.length ++ (d ++ c)) = a ++ (pcL d ++ c) := by simp [pcL]
  rw [e] at h
  unfold spAt
  rw [h]
  unfold spT
  simp only [if_true]
  rw [if_neg (by simp [pcL]; omega)]
  simp [pcL, Nat.add_assoc]
theorem gcAt_put (a c d : List UInt8) (hd : d.length < 18446744073709551616) : gcAt (a ++ (pcL d ++ c)) a.length = (d, a.length + (pcL d).length, 0) := by
  unfold gcAt
  rw [spAt_put a c d hd]
  unfold gcT
  simp only [if_true]
  congr 1
  have e : a ++ (pcL d ++ c) = (a ++ pvL d.length) ++ (d ++ c) := by simp [pcL]
  rw [e, List.drop_left' (by simp)]
  rw [List.take_left' (by simp [pcL]; omega)]
/-- What PutEntry lets by. -/
theorem peS_ok {e : Ent} (h : (peS e).2 = 0) : 1 ≤ e.num ∧ e.num ≤ 536870911 ∧ isK e.kind = true ∧ fineE e = true ∧ (peS e).1 = tagE e ++ bodyE e := by
  unfold peS at h ⊢
  by_cases h1 : e.num < 1 ∨ 536870911 < e.num
  · rw [if_pos h1] at h; simp at h
  · rw [if_neg h1] at h ⊢
    cases h2 : isK e.kind with
    | false => rw [h2] at h; simp at h
    | true =>
      rw [h2] at h
      cases h3 : fineE e with
      | false => rw [h3] at h; simp at h
      | true => exact ⟨by omega, by omega, rfl, rfl, by simp⟩
theorem geAt_put (a c : List UInt8) {e : Ent} (hn : e.n < 18446744073709551616) (hb : e.b.length < 18446744073709551616) (h : (peS e).2 = 0) : geAt (a ++ ((peS e).1 ++ c)) a.length = (e, a.length + (peS e).1.length, 0) := by
  obtain ⟨h1, h2, h3, h4, h5⟩ := peS_ok h
  rw [h5]
  obtain ⟨num, kind, n, b⟩ := e
  simp only at hn hb h1 h2 h3
  obtain ⟨m, rfl⟩ := Int.eq_ofNat_of_zero_le (by omega : 0 ≤ num)
  have hk7 := isK_le h3
  obtain ⟨k, rfl⟩ := Int.eq_ofNat_of_zero_le hk7.1
  have ht : ((m : Int) * 8 + (k : Int)).toNat = m * 8 + k := by omega
  simp only [tagE, ht]
  generalize hB : bodyE { num := (m : Int), kind := (k : Int), n := n, b := b } = B
  have hg := gvAt_put a (B ++ c) (n := m * 8 + k) (by omega)
  have hgt : gtAt (a ++ (pvL (m * 8 + k) ++ (B ++ c))) a.length = (m, k, a.length + (pvL (m * 8 + k)).length, 0) := by
    unfold gtAt
    rw [hg]
    unfold gtT
    have e1 : (m * 8 + k) / 8 = m := by omega
    have e2 : (m * 8 + k) % 8 = k := by omega
    simp only [e1, e2, if_true]
    rw [if_neg (by omega), if_pos h3]
  have happ : a ++ (pvL (m * 8 + k) ++ B ++ c) = a ++ (pvL (m * 8 + k) ++ (B ++ c)) := by simp
  rw [happ]
  unfold geAt
  rw [hgt]
  simp only [if_true]
  have hpl : ((a.length + (pvL (m * 8 + k)).length : Nat) : Int) = (((a ++ pvL (m * 8 + k)).length : Nat) : Int) := by simp
  have hap2 : a ++ (pvL (m * 8 + k) ++ (B ++ c)) = (a ++ pvL (m * 8 + k)) ++ (B ++ c) := by simp
  unfold restAt
  rw [hap2, hpl]
  have hkk : k = 0 ∨ k = 1 ∨ k = 2 ∨ k = 5 := by
    simp only [isK, Bool.or_eq_true, decide_eq_true_eq] at h3; omega
  rcases hkk with rfl | rfl | rfl | rfl
  · simp only [bodyE] at hB
    simp at hB; subst hB
    simp [fineE] at h4
    rw [if_pos rfl, gvAt_put _ c hn]
    simp [fin3, h4, Nat.add_assoc]
  · simp only [bodyE] at hB
    simp at hB; subst hB
    simp [fineE] at h4
    rw [if_neg (by omega), if_pos rfl, rdAt_put _ c 8 (by simpa using hn)]
    simp [fin3, h4, wdL_len, Nat.add_assoc]
  · simp only [bodyE] at hB
    simp at hB; subst hB
    simp [fineE] at h4
    rw [if_neg (by omega), if_neg (by omega), if_neg (by omega), gcAt_put _ c b hb]
    simp [finC, h4, Nat.add_assoc]
  · simp only [bodyE] at hB
    simp at hB; subst hB
    simp [fineE] at h4
    rw [if_neg (by omega), if_neg (by omega), if_pos rfl, rdAt_put _ c 4 (by simp; omega)]
    simp [fin3, h4, wdL_len, Nat.add_assoc]
theorem peS_pos {e : Ent} (h : (peS e).2 = 0) : 0 < (peS e).1.length := by
  obtain ⟨h1, h2, h3, h4, h5⟩ := peS_ok h
  rw [h5, tagE]
  have : 0 < (pvL (e.num * 8 + e.kind).toNat).length := by
    rw [pvL]; split <;> simp
  simp; omega

/-! ### lists -/
theorem jnF_acc : ∀ (l : List Ent) (acc : List UInt8), (∀ e ∈ l, (peS e).2 = 0) → jnF l acc = (acc ++ (l.map fun e => (peS e).1).flatten, 0)
  | [], acc, _ => by simp [jnF]
  | e :: l, acc, h => by
    rw [jnF, if_pos (h e (by simp)), jnF_acc l _ fun x hx => h x (by simp [hx])]
    simp
theorem jnF_ok : ∀ (l : List Ent) (acc : List UInt8), (jnF l acc).2 = 0 → ∀ e ∈ l, (peS e).2 = 0
  | [], acc, _ => by simp
  | e :: l, acc, h => by
    rw [jnF] at h
    by_cases he : (peS e).2 = 0
    · rw [if_pos he] at h
      intro x hx
      rcases List.mem_cons.1 hx with rfl | hx
      · exact he
      · exact jnF_ok l _ h x hx
    · rw [if_neg he] at h; exact absurd h he
def bytesOf' (l : List Ent) : List UInt8 := (l.map fun e => (peS e).1).flatten
theorem spF_put (l : List Ent) (hl : ∀ e ∈ l, e.n < 18446744073709551616 ∧ e.b.length < 18446744073709551616 ∧ (peS e).2 = 0) : ∀ (a : List UInt8) (acc : List Ent) (f : Nat), (bytesOf' l).length < f → spF (a ++ bytesOf' l) f a.length acc = (acc ++ l, 0) := by
  induction l with
  | nil =>
    intro a acc f hf
    obtain ⟨f, rfl⟩ : ∃ g, f = g + 1 := ⟨f - 1, by omega⟩
    rw [spF, if_neg (by simp [bytesOf'])]
    simp
  | cons e l ih =>
    intro a acc f hf
    obtain ⟨f, rfl⟩ : ∃ g, f = g + 1 := ⟨f - 1, by omega⟩
    obtain ⟨h1, h2, h3⟩ := hl e (by simp)
    have hp := peS_pos h3
    have eb : bytesOf' (e :: l) = (peS e).1 ++ bytesOf' l := by simp [bytesOf']
    have hg := geAt_put a (bytesOf' l) h1 h2 h3
    rw [eb, List.length_append] at hf
    rw [spF, eb, if_pos (by simp; omega), hg]
    simp only [if_true]
    have := ih (fun x hx => hl x (by simp [hx])) (a ++ (peS e).1) (acc ++ [e]) f (by omega)
    rw [List.append_assoc, List.length_append] at this
    rw [this]
    simp
theorem spL_put (l : List Ent) (hl : ∀ e ∈ l, e.n < 18446744073709551616 ∧ e.b.length < 18446744073709551616 ∧ (peS e).2 = 0) : spL (bytesOf' l) = (l, 0) := by
  have := spF_put l hl [] [] ((bytesOf' l).length + 1) (by omega)
  simpa [spL] using this
end Go.Proofs.Ytfmeedphpcjkmaa.Ag
set_option linter.unusedVariables false
set_option linter.unusedSimpArgs false
namespace Go.Proofs.Ytfmeedphpcjkmaa.Ag

theorem gvL_app (c : List UInt8) : ∀ (l : List UInt8) (i m : Nat) {n k : Nat}, gvL l i m = (n, k, 0) → gvL (l ++ c) i m = (n, k, 0)
  | [], i, m, n, k, h => by simp [gvL] at h
  | b :: r, i, m, n, k, h => by
    simp only [List.cons_append, gvL] at h ⊢
    split
    · rename_i h1; rw [if_pos h1] at h; simp at h
    · rename_i h1; rw [if_neg h1] at h
      split
      · rename_i h2; rw [if_pos h2] at h; exact h
      · rename_i h2; rw [if_neg h2] at h; exact gvL_app c r _ _ h
theorem gvAt_inv {x : List UInt8} {j : Nat} {n p : Nat} (h : gvAt x j = (n, p, 0)) : j ≤ x.length ∧ j ≤ p ∧ gvL (x.drop j) 0 0 = (n, p - j, 0) := by
  have h1 := gvAt_next h
  unfold gvAt at h
  rw [if_pos (by omega)] at h
  simp only [Int.toNat_natCast] at h
  refine ⟨by omega, by omega, ?_⟩
  split at h
  · rename_i n' k' hg
    simp at h
    rw [hg, h.1]; congr 2; omega
  · rename_i e hne hg
    simp at h
    obtain ⟨rfl, rfl, rfl⟩ := h
    exact (hne rfl).elim
theorem gvAt_mid (a c : List UInt8) {x : List UInt8} {j n p : Nat} (h : gvAt x j = (n, p, 0)) : gvAt (a ++ (x ++ c)) ((a.length + j : Nat) : Int) = (n, a.length + p, 0) := by
  obtain ⟨h1, h2, h3⟩ := gvAt_inv h
  have e : a.length + p = (a.length + j) + (p - j) := by omega
  rw [e]
  refine gvAt_ok (by simp; omega) ?_
  have : (a ++ (x ++ c)).drop (a.length + j) = x.drop j ++ c := by
    rw [← List.drop_drop, List.drop_left, List.drop_append_of_le_length h1]
  rw [this]
  exact gvL_app c _ _ _ h3
theorem rdAt_mid (a c : List UInt8) {x : List UInt8} {j n p s : Nat} (h : rdAt x j s = (n, p, 0)) : rdAt (a ++ (x ++ c)) ((a.length + j : Nat) : Int) s = (n, a.length + p, 0) := by
  unfold rdAt at h ⊢
  split at h
  · rename_i h1
    simp only [Int.toNat_natCast] at h ⊢
    split at h
    · simp at h
    · rename_i h2
      simp at h
      have hd : (a ++ (x ++ c)).drop (a.length + j) = x.drop j ++ c := by
        rw [← List.drop_drop, List.drop_left, List.drop_append_of_le_length (by omega)]
      rw [if_pos (by simp; omega), if_neg (by simp; omega), hd, List.take_append_of_le_length (by simp; omega), h.1]
      congr 2; omega
  · simp at h
theorem spAt_inv {x : List UInt8} {j p q : Nat} (h : spAt x j = (p, q, 0)) : ∃ n, gvAt x j = (n, p, 0) ∧ q = p + n ∧ q ≤ x.length ∧ j < p := by
  have h0 := spAt_ok h
  unfold spAt spT at h
  generalize hg : gvAt x j = g at h
  obtain ⟨n, p', e⟩ := g
  simp only at h
  split at h
  · rename_i he; subst he
    split at h
    · simp at h
    · simp at h; obtain ⟨rfl, rfl⟩ := h; exact ⟨n, rfl, rfl, by omega, by omega⟩
  · rename_i he; simp at h; exact absurd h.2.2 he
theorem gcAt_inv {x : List UInt8} {j q : Nat} {d : List UInt8} (h : gcAt x j = (d, q, 0)) : ∃ p, spAt x j = (p, q, 0) ∧ d = (x.drop p).take (q - p) := by
  unfold gcAt gcT at h
  generalize hg : spAt x j = g at h
  obtain ⟨p, q', e⟩ := g
  simp only at h
  split at h
  · rename_i he; subst he
    simp at h; exact ⟨p, by rw [← h.2], by rw [← h.2]; exact h.1.symm⟩
  · rename_i he; simp at h; exact absurd h.2.2 he
theorem gcAt_mid (a c : List UInt8) {x : List UInt8} {j q : Nat} {d : List UInt8} (h : gcAt x j = (d, q, 0)) : gcAt (a ++ (x ++ c)) ((a.length + j : Nat) : Int) = (d, a.length + q, 0) := by
  obtain ⟨p, h1, rfl⟩ := gcAt_inv h
  obtain ⟨n, h2, rfl, h3, h4⟩ := spAt_inv h1
  unfold gcAt spAt
  rw [gvAt_mid a c h2]
  unfold spT
  simp only [if_true]
  rw [if_neg (by simp; omega)]
  unfold gcT
  simp only [if_true]
  have hd : (a ++ (x ++ c)).drop (a.length + p) = x.drop p ++ c := by
    rw [← List.drop_drop, List.drop_left, List.drop_append_of_le_length (by omega)]
  rw [hd, List.take_append_of_le_length (by simp; omega)]
  congr 2
  · omega
  · omega
theorem gtAt_inv {x : List UInt8} {j m k q : Nat} (h : gtAt x j = (m, k, q, 0)) : ∃ n, gvAt x j = (n, q, 0) ∧ m = n / 8 ∧ k = n % 8 ∧ 1 ≤ m ∧ m ≤ 536870911 ∧ isK k = true := by
  unfold gtAt gtT at h
  generalize hg : gvAt x j = g at h
  obtain ⟨n, p, e⟩ := g
  simp only at h
  split at h
  · rename_i he; subst he
    split at h
    · simp at h
    · rename_i h1
      split at h
      · rename_i h2
        simp only [Prod.mk.injEq] at h
        obtain ⟨rfl, rfl, rfl, _⟩ := h
        exact ⟨n, rfl, rfl, rfl, by omega, by omega, h2⟩
      · simp at h
  · rename_i he; simp at h; exact absurd h.2.2.2 he
theorem gtAt_mid (a c : List UInt8) {x : List UInt8} {j m k q : Nat} (h : gtAt x j = (m, k, q, 0)) : gtAt (a ++ (x ++ c)) ((a.length + j : Nat) : Int) = (m, k, a.length + q, 0) := by
  obtain ⟨n, h1, rfl, rfl, h2, h3, h4⟩ := gtAt_inv h
  unfold gtAt
  rw [gvAt_mid a c h1]
  unfold gtT
  simp only [if_true]
  rw [if_neg (by omega), if_pos h4]
/-- How an entry was read. -/
theorem geAt_inv {x : List UInt8} {j p : Nat} {e : Ent} (h : geAt x j = (e, p, 0)) : ∃ m k q : Nat, gtAt x j = (m, k, q, 0) ∧
    ((k = 0 ∧ ∃ n, gvAt x q = (n, p, 0) ∧ e = ⟨m, k, n, []⟩) ∨ (k = 1 ∧ ∃ n, rdAt x q 8 = (n, p, 0) ∧ e = ⟨m, k, n, []⟩) ∨ (k = 5 ∧ ∃ n, rdAt x q 4 = (n, p, 0) ∧ e = ⟨m, k, n, []⟩) ∨ (k = 2 ∧ ∃ d, gcAt x q = (d, p, 0) ∧ e = ⟨m, k, 0, d⟩)) := by
  unfold geAt at h
  generalize hg : gtAt x j = g at h
  obtain ⟨m, k, q, er⟩ := g
  simp only at h
  split at h
  · rename_i he; subst he
    refine ⟨m, k, q, rfl, ?_⟩
    obtain ⟨_, _, _, _, _, _, hk⟩ := gtAt_inv hg
    have f3 : ∀ g : Nat × Nat × Nat, fin3 m k g = (e, p, 0) → ∃ n, g = (n, p, 0) ∧ e = ⟨m, k, n, []⟩ := by
      rintro ⟨n, p', er⟩ h
      unfold fin3 at h
      simp only at h
      split at h
      · rename_i he; subst he; simp only [Prod.mk.injEq] at h; exact ⟨n, by rw [h.2.1], h.1.symm⟩
      · rename_i he; simp only [Prod.mk.injEq] at h; exact absurd h.2.2 he
    unfold restAt at h
    split at h
    · rename_i h1; exact .inl ⟨h1, f3 _ h⟩
    · rename_i h1
      split at h
      · rename_i h2; exact .inr (.inl ⟨h2, f3 _ h⟩)
      · rename_i h2
        split at h
        · rename_i h3; exact .inr (.inr (.inl ⟨h3, f3 _ h⟩))
        · rename_i h3
          refine .inr (.inr (.inr ⟨?_, ?_⟩))
          · simp only [isK, Bool.or_eq_true, decide_eq_true_eq] at hk; omega
          · generalize gcAt x q = g at h ⊢
            obtain ⟨d, p', er⟩ := g
            unfold finC at h
            simp only at h
            split at h
            · rename_i he; subst he; simp only [Prod.mk.injEq] at h; exact ⟨d, by rw [h.2.1], h.1.symm⟩
            · rename_i he; simp only [Prod.mk.injEq] at h; exact absurd h.2.2 he
  · rename_i he; simp at h; exact absurd h.2.2 he
theorem geAt_mid (a c : List UInt8) {x : List UInt8} {j p : Nat} {e : Ent} (h : geAt x j = (e, p, 0)) : geAt (a ++ (x ++ c)) ((a.length + j : Nat) : Int) = (e, a.length + p, 0) := by
  obtain ⟨m, k, q, h1, h2⟩ := geAt_inv h
  unfold geAt
  rw [gtAt_mid a c h1]
  simp only [if_true]
  unfold restAt
  rcases h2 with ⟨rfl, n, h3, rfl⟩ | ⟨rfl, n, h3, rfl⟩ | ⟨rfl, n, h3, rfl⟩ | ⟨rfl, d, h3, rfl⟩
  · rw [if_pos rfl, gvAt_mid a c h3]; simp [fin3]
  · rw [if_neg (by omega), if_pos rfl, rdAt_mid a c h3]; simp [fin3]
  · rw [if_neg (by omega), if_neg (by omega), if_pos rfl, rdAt_mid a c h3]; simp [fin3]
  · rw [if_neg (by omega), if_neg (by omega), if_neg (by omega), gcAt_mid a c h3]; simp [finC]
/-- What is read is fine. -/
theorem geAt_fine {x : List UInt8} {j p : Nat} {e : Ent} (h : geAt x j = (e, p, 0)) : e.n < 18446744073709551616 ∧ (peS e).2 = 0 ∧ j + e.b.length + 1 ≤ p ∧ p ≤ x.length := by
  have hn := geAt_next (b := x) (k := j) (by rw [h])
  rw [h] at hn
  simp only at hn
  obtain ⟨m, k, q, h1, h2⟩ := geAt_inv h
  obtain ⟨n0, h4, hm, hk, h5, h6, h7⟩ := gtAt_inv h1
  have hq := gvAt_next h4
  have pe : ∀ e : Ent, e.num = m → e.kind = k → fineE e = true → (peS e).2 = 0 := by
    intro e e1 e2 e3
    unfold peS
    rw [e1, e2, if_neg (by omega), h7, e3]
    simp
  rcases h2 with ⟨rfl, n, h3, rfl⟩ | ⟨rfl, n, h3, rfl⟩ | ⟨rfl, n, h3, rfl⟩ | ⟨rfl, d, h3, rfl⟩
  · have := gvAt_lt x q; rw [h3] at this
    exact ⟨this, pe _ rfl rfl (by simp [fineE]), by simp; omega, hn.2⟩
  · have := rdAt_lt x q 8; rw [h3] at this
    exact ⟨by simpa using this, pe _ rfl rfl (by simp [fineE]), by simp; omega, hn.2⟩
  · have := rdAt_lt x q 4; rw [h3] at this
    exact ⟨by simp at this ⊢; omega, pe _ rfl rfl (by simp [fineE] at this ⊢; omega), by simp; omega, hn.2⟩
  · obtain ⟨r, h8, rfl⟩ := gcAt_inv h3
    have h9 := spAt_ok h8
    exact ⟨by simp, pe _ rfl rfl (by simp [fineE]), by simp; omega, hn.2⟩

/-! ### runs of entries -/
inductive Reads (b : List UInt8) : Nat → List Ent → Nat → Prop
  | nil (j : Nat) : Reads b j [] j
  | cons {j p q : Nat} {e : Ent} {l : List Ent} (hj : j < b.length) (h : geAt b j = (e, p, 0)) (t : Reads b p l q) : Reads b j (e :: l) q
theorem spF_reads {b : List UInt8} : ∀ (f j : Nat) (acc r : List Ent), j ≤ b.length → spF b f j acc = (r, 0) → ∃ l, r = acc ++ l ∧ Reads b j l b.length
  | 0, j, acc, r, _, h => by simp [spF] at h
  | f + 1, j, acc, r, hj, h => by
    rw [spF] at h
    split at h
    · rename_i hlt
      split at h
      · rename_i he
        have hn := geAt_next he
        obtain ⟨l, h1, h2⟩ := spF_reads f _ _ r hn.2 h
        refine ⟨(geAt b j).1 :: l, by rw [h1]; simp, .cons hlt ?_ h2⟩
        rw [← he]
      · rename_i he; simp at h; exact absurd h.2 he
    · rename_i hlt
      simp at h
      obtain rfl : j = b.length := by omega
      exact ⟨[], by simp [h], .nil _⟩
theorem reads_spF {b : List UInt8} {j q : Nat} {l : List Ent} (h : Reads b j l q) : q = b.length → ∀ (f : Nat) (acc : List Ent), b.length < j + f → j ≤ b.length → spF b f j acc = (acc ++ l, 0) := by
  induction h with
  | nil j =>
    rintro rfl f acc hf hj
    obtain ⟨f, rfl⟩ : ∃ g, f = g + 1 := ⟨f - 1, by omega⟩
    rw [spF, if_neg (by omega)]; simp
  | cons hj h t ih =>
    intro hq f acc hf _
    obtain ⟨f, rfl⟩ : ∃ g, f = g + 1 := ⟨f - 1, by omega⟩
    have hf' := geAt_fine h
    rw [spF, if_pos hj, h]
    simp only [if_true]
    rw [ih hq f _ (by omega) hf'.2.2.2]
    simp
theorem Reads.mid (a c : List UInt8) {x : List UInt8} {j q : Nat} {l : List Ent} (h : Reads x j l q) : Reads (a ++ (x ++ c)) (a.length + j) l (a.length + q) := by
  induction h with
  | nil j => exact .nil _
  | cons hj h t ih => exact .cons (by simp; omega) (geAt_mid a c h) ih
theorem Reads.trans {b : List UInt8} {j p q : Nat} {l m : List Ent} (h : Reads b j l p) (k : Reads b p m q) : Reads b j (l ++ m) q := by
  induction h with
  | nil j => exact k
  | cons hj h t ih => exact .cons hj h (ih k)
theorem Reads.fine {b : List UInt8} {j q : Nat} {l : List Ent} (h : Reads b j l q) : (∀ e ∈ l, e.n < 18446744073709551616 ∧ e.b.length < b.length ∧ (peS e).2 = 0) ∧ j ≤ q ∧ szEs l ≤ 31 * (q - j) := by
  induction h with
  | nil j => exact ⟨by simp, by omega, by simp [szEs]⟩
  | cons hj h t ih =>
    obtain ⟨h1, h2, h3, h4⟩ := geAt_fine h
    obtain ⟨i1, i2, i3⟩ := ih
    refine ⟨fun x hx => ?_, by omega, by rw [szEs_cons]; omega⟩
    rcases List.mem_cons.1 hx with rfl | hx
    · exact ⟨h1, by omega, h2⟩
    · exact i1 x hx
theorem spL_reads {b : List UInt8} {l : List Ent} (h : spL b = (l, 0)) : Reads b 0 l b.length := by
  obtain ⟨l', h1, h2⟩ := spF_reads _ 0 [] l (Nat.zero_le _) h
  simp at h1; subst h1; exact h2
theorem reads_spL {b : List UInt8} {l : List Ent} (h : Reads b 0 l b.length) : spL b = (l, 0) := by
  have := reads_spF h rfl (b.length + 1) [] (by omega) (by omega)
  simpa [spL] using this
theorem spL_append {x y : List UInt8} {l m : List Ent} (hx : spL x = (l, 0)) (hy : spL y = (m, 0)) : spL (x ++ y) = (l ++ m, 0) := by
  have h1 := (spL_reads hx).mid [] y
  have h2 := (spL_reads hy).mid x []
  simp at h1 h2
  refine reads_spL ?_
  have := h1.trans h2
  simpa using this
theorem spL_fine {b : List UInt8} {l : List Ent} (h : spL b = (l, 0)) (hb : b.length ≤ 30000000) : okEs l = true ∧ ∀ e ∈ l, e.n < 18446744073709551616 ∧ e.b.length < 18446744073709551616 ∧ (peS e).2 = 0 := by
  obtain ⟨h1, h2, h3⟩ := (spL_reads h).fine
  refine ⟨?_, fun e he => ⟨(h1 e he).1, by have := (h1 e he).2.1; omega, (h1 e he).2.2⟩⟩
  simp only [okEs, Bool.and_eq_true, List.all_eq_true, decide_eq_true_eq]
  exact ⟨fun e he => (h1 e he).1, by omega⟩
end Go.Proofs.Ytfmeedphpcjkmaa.Ag
set_option linter.unusedVariables false
set_option linter.unusedSimpArgs false
namespace Go.Proofs.Ytfmeedphpcjkmaa.Ag
def g_wire_Join : List IV → Option IV
  | [x_] => (match decEs x_ with
    | some x => if okEs x = true then some (encPT (jnF x [])) else none
    | none => none)
  | _ => none
theorem g_wire_Join_is (x : Ents) : g_wire_Join [encEs x] = if okEs x = true then some (encPT (jnF x [])) else none := by
  simp only [g_wire_Join, decEs_enc]
theorem g_wire_Join_ok : ∀ xs r, g_wire_Join xs = some r → FC Try.prog i_wire_Join xs (· = r) := by
  intro xs r h
  unfold g_wire_Join at h
  split at h
  · rename_i x_
    split at h
    · rename_i x hx
      split at h
      · rename_i hpre
        injection h with h; subst h
        have := decEs_enc_inv hx; subst this
        exact join_fc x hpre
      · cases h
    · cases h
  · cases h

def g_cartoucheref1_Split : List IV → Option IV
  | [.slice b_] => (match unBs b_ with
    | some b => if b.length ≤ 100000000000 then some (encSL (spL b)) else none
    | none => none)
  | _ => none
theorem g_cartoucheref1_Split_is (b : List UInt8) : g_cartoucheref1_Split [.slice (b.map encB)] = if b.length ≤ 100000000000 then some (encSL (spL b)) else none := by
  simp only [g_cartoucheref1_Split, unBs_enc]
theorem g_cartoucheref1_Split_ok : ∀ xs r, g_cartoucheref1_Split xs = some r → FC Try.prog i_cartoucheref1_Split xs (· = r) := by
  intro xs r h
  unfold g_cartoucheref1_Split at h
  split at h
  · rename_i b_
    split at h
    · rename_i b hb
      split at h
      · rename_i hpre
        injection h with h; subst h
        have := unBs_enc_inv hb; subst this
        exact ref_split_fc b hpre
      · cases h
    · cases h
  · cases h

def g_cartoucheref1_List : List IV → Option IV
  | [x_, y_] => (match decEs x_ with
    | some x => (match decEs y_ with
    | some y => if x.length ≤ 140737488351232 then some (.bool (decide (x = y))) else none
    | none => none)
    | none => none)
  | _ => none
theorem g_cartoucheref1_List_is (x : Ents) (y : Ents) : g_cartoucheref1_List [encEs x, encEs y] = if x.length ≤ 140737488351232 then some (.bool (decide (x = y))) else none := by
  simp only [g_cartoucheref1_List, decEs_enc, decEs_enc]
theorem g_cartoucheref1_List_ok : ∀ xs r, g_cartoucheref1_List xs = some r → FC Try.prog i_cartoucheref1_List xs (· = r) := by
  intro xs r h
  unfold g_cartoucheref1_List at h
  split at h
  · rename_i x_ y_
    split at h
    · rename_i x hx
      split at h
      · rename_i y hy
        split at h
        · rename_i hpre
          injection h with h; subst h
          have := decEs_enc_inv hx; subst this
          have := decEs_enc_inv hy; subst this
          exact list_fc x y hpre
        · cases h
      · cases h
    · cases h
  · cases h

end Go.Proofs.Ytfmeedphpcjkmaa.Ag
