/- What was put is read: a number's bytes are read as it; cut off they are short. -/
import Derived.Test.YtpnliafjiookpaaRdA
namespace Go.Proofs.Ytpnliafjiookpaa

theorem parseF_num (f : Nat) : ∀ (i n m : Nat) (rest : List UInt8), 0 < f → i + f ≤ 10 → m < 128 ^ f → (0 < i → 0 < m) → (i = 9 → m < 2) →  n + m * 128 ^ i < 18446744073709551616 →
    parseF i n (numF f m ++ rest) = (n + m * 128 ^ i, i + (numF f m).length, 0) := by
  induction f with
  | zero => intro i n m rest h; omega
  | succ f ih =>
    intro i n m rest _ hi hm h0 h9 hb
    by_cases hl : m < 128
    · rw [numF_last (by omega) hl]
      have e : (UInt8.ofNat m).toNat = m := by simp; omega
      rw [List.cons_append, List.nil_append, parseF, if_neg (by omega), e, if_neg (by omega), if_neg (by rw [Nat.mod_eq_of_lt hl]; omega), if_pos hl, Nat.mod_eq_of_lt hl]
      rfl
    · rw [numF_more hl, List.cons_append, parseF, if_neg (by omega), septet_toNat, if_neg (by omega)]
      have hi9 : i ≠ 9 := fun e => by have := h9 e; omega
      rw [if_neg (by omega), if_neg (by omega)]
      have e2 : (m % 128 + 128) % 128 = m % 128 := by omega
      rw [e2]
      have hdm : m % 128 + 128 * (m / 128) = m := Nat.mod_add_div m 128
      have e3 : n + m % 128 * 128 ^ i + m / 128 * 128 ^ (i + 1) = n + m * 128 ^ i := by
        have h1 : m * 128 ^ i = (m % 128) * 128 ^ i + m / 128 * 128 ^ (i + 1) := by
          conv => lhs; rw [← hdm]
          rw [Nat.add_mul, Nat.pow_succ, Nat.mul_comm 128 (m / 128), Nat.mul_assoc, Nat.mul_comm 128 (128 ^ i)]
        omega
      have hf : 0 < f := by
        rcases Nat.eq_zero_or_pos f with rfl | h
        · simp at hm; omega
        · exact h
      have h9' : i + 1 = 9 → m / 128 < 2 := by
        intro e
        have h8 : i = 8 := by omega
        subst h8
        have : m / 128 * 128 ^ 9 < 18446744073709551616 := by omega
        omega
      rw [ih (i + 1) (n + m % 128 * 128 ^ i) (m / 128) rest hf (by omega) (by rw [Nat.pow_succ] at hm; exact Nat.div_lt_of_lt_mul (by omega)) (fun _ => by omega) h9' (by rw [e3]; exact hb), e3]
      simp
      omega

theorem parse_num {m : Nat} (h : U64 m) (rest : List UInt8) : parse (num m ++ rest) = (m, (num m).length, 0) := by
  unfold U64 at h
  have := parseF_num 10 0 0 m rest (by omega) (by omega) (by omega) (by omega) (by omega) (by simpa using h)
  simpa [parse, num] using this

/-- Cut off within, a number's bytes are short. -/
theorem parseF_cut (f : Nat) : ∀ (i n m k : Nat), i + f ≤ 10 → m < 128 ^ f → k < (numF f m).length → (i = 9 → m < 2) → n + m * 128 ^ i < 18446744073709551616 → parseF i n ((numF f m).take k) = (0, 0, 4) := by
  induction f with
  | zero => intro i n m k _ _ h; simp [numF] at h
  | succ f ih =>
    intro i n m k hi hm hk h9 hb
    cases k with
    | zero => rw [List.take_zero, parseF, if_pos (by omega)]
    | succ k =>
      by_cases hl : m < 128
      · rw [numF_last (by omega) hl] at hk
        simp at hk
      · rw [numF_more hl] at hk ⊢
        have hi9 : i ≠ 9 := fun e => by have := h9 e; omega
        rw [List.take_succ_cons, parseF, if_neg (by omega), septet_toNat, if_neg (by omega), if_neg (by omega), if_neg (by omega)]
        have e2 : (m % 128 + 128) % 128 = m % 128 := by omega
        rw [e2]
        have hdm : m % 128 + 128 * (m / 128) = m := Nat.mod_add_div m 128
        have e3 : n + m % 128 * 128 ^ i + m / 128 * 128 ^ (i + 1) = n + m * 128 ^ i := by
          have h1 : m * 128 ^ i = (m % 128) * 128 ^ i + m / 128 * 128 ^ (i + 1) := by
            conv => lhs; rw [← hdm]
            rw [Nat.add_mul, Nat.pow_succ, Nat.mul_comm 128 (m / 128), Nat.mul_assoc, Nat.mul_comm 128 (128 ^ i)]
          omega
        refine ih (i + 1) _ (m / 128) k (by omega) (by rw [Nat.pow_succ] at hm; exact Nat.div_lt_of_lt_mul (by omega)) (by simp at hk; omega) ?_ (by rw [e3]; exact hb)
        intro e
        have h8 : i = 8 := by omega
        subst h8
        have : m / 128 * 128 ^ 9 < 18446744073709551616 := by omega
        omega

theorem parse_cut {m k : Nat} (h : U64 m) (hk : k < (num m).length) : parse ((num m).take k) = (0, 0, 4) := by
  unfold U64 at h
  have := parseF_cut 10 0 0 m k (by omega) (by omega) hk (by omega) (by simpa using h)
  simpa [parse, num] using this

/-- What is read as a number, put again, is what was read. -/
theorem parseF_back (l : List UInt8) : ∀ (i n : Nat), i ≤ 9 → n < 128 ^ i → (parseF i n l).2.2 = 0 → ∃ m j, parseF i n l = (n + m * 128 ^ i, i + j, 0) ∧ 0 < j ∧ i + j ≤ 10 ∧ m < 128 ^ j ∧ (0 < i → 0 < m) ∧ j ≤ l.length ∧
    ∀ f, j ≤ f → numF f m = l.take j := by
  induction l with
  | nil => intro i n hi _ h; unfold parseF at h; split at h <;> simp at h
  | cons x l ih =>
    intro i n hi hn h
    unfold parseF at h ⊢
    have h1 : ¬ i = 10 := by omega
    rw [if_neg h1] at h ⊢
    by_cases h2 : x.toNat = 0 ∧ 0 < i
    · rw [if_pos h2] at h; simp at h
    rw [if_neg h2] at h ⊢
    by_cases h3 : i = 9 ∧ 2 ≤ x.toNat % 128
    · rw [if_pos h3] at h; simp at h
    rw [if_neg h3] at h ⊢
    by_cases h5 : x.toNat < 128
    · rw [if_pos h5]
      refine ⟨x.toNat, 1, by rw [Nat.mod_eq_of_lt h5], by omega, by omega, by omega, fun hp => by omega, by simp, fun f hf => ?_⟩
      rw [numF_last (by omega) h5]
      simp
    · rw [if_neg h5] at h ⊢
      by_cases hi9 : i = 9
      · exfalso
        subst hi9
        cases l with
        | nil => simp [parseF] at h
        | cons y l => simp [parseF] at h
      · have hx : x.toNat % 128 < 128 := Nat.mod_lt _ (by decide)
        have hlt : n + x.toNat % 128 * 128 ^ i < 128 ^ (i + 1) := by
          have h4 : x.toNat % 128 * 128 ^ i ≤ 127 * 128 ^ i := Nat.mul_le_mul_right _ (by omega)
          rw [Nat.pow_succ]
          omega
        obtain ⟨m, j, e, hj, hj10, hmj, hm0, hjl, hf⟩ := ih (i + 1) _ (by omega) hlt h
        have hm := hm0 (by omega)
        have hxlt := x.toNat_lt
        refine ⟨x.toNat % 128 + 128 * m, j + 1, ?_, by omega, by omega, ?_, fun _ => by omega, by simp; omega, fun f hfj => ?_⟩
        · rw [e]
          have : n + x.toNat % 128 * 128 ^ i + m * 128 ^ (i + 1) = n + (x.toNat % 128 + 128 * m) * 128 ^ i := by
            rw [Nat.add_mul, Nat.pow_succ, Nat.mul_comm 128 m, Nat.mul_assoc, Nat.mul_comm 128 (128 ^ i)]
            omega
          rw [this]
          congr 2
          omega
        · rw [Nat.pow_succ]; omega
        · obtain ⟨g, rfl⟩ : ∃ g, f = g + 1 := ⟨f - 1, by omega⟩
          rw [numF_more (by omega), List.take_succ_cons, show (x.toNat % 128 + 128 * m) / 128 = m by omega, hf g (by omega)]
          congr 1
          apply UInt8.toNat_inj.1
          rw [septet_toNat]
          omega

theorem parse_back {l : List UInt8} (h : (parse l).2.2 = 0) : num (parse l).1 = l.take (parse l).2.1 ∧ 0 < (parse l).2.1 ∧ (parse l).2.1 ≤ 10 := by
  obtain ⟨m, j, e, hj, hj10, _, _, _, hf⟩ := parseF_back l 0 0 (by omega) (by decide) h
  have e' : parse l = (m, j, 0) := by simpa [parse] using e
  rw [e']
  exact ⟨hf 10 (by omega), hj, by simpa using hj10⟩

end Go.Proofs.Ytpnliafjiookpaa
