/- How a trial stands behind deeds: plain laws. -/
import Derived.Test.YtdpcbehgoljgeaaHalF
import Derived.Test.YtdpcbehgoljgeaaHalG
namespace Go.Proofs.Ytdpcbehgoljgeaa
open Go.RowKit

/-- How a trial of 2 to the k steps stands behind n deeds. -/
def EInv (k : Nat) (t : Tri) (n : Nat) : Prop := ∃ j, j ≤ k ∧ t.steps = 2 ^ j ∧ t.fro + t.steps ≤ 2 ^ k ∧ (t.told = true → 1 ≤ j) ∧
  (t.won = -1 ∧ n = 2 * (k - j) + t.told.toNat ∨ (t.won = 0 ∨ t.won = 1) ∧ n = 2 * (k - j) + t.told.toNat + 1)

theorem EInv.start (k : Nat) (p a b : Dig) (z : Int) : EInv k ⟨0, 2 ^ k, a, b, p, z, dig0, false, -1⟩ 0 := ⟨k, Nat.le_refl _, rfl, by simp, by simp, .inl ⟨rfl, by simp⟩⟩

theorem two_pow_one (j : Nat) : 2 ^ j = 1 ↔ j = 0 := by
  constructor
  · intro h
    rcases j with _ | j
    · rfl
    · rw [Nat.pow_succ] at h; omega
  · intro h; subst h; rfl

theorem turn_open {t : Tri} (h : t.won = -1) : turnF t = if t.told then 1 else 0 := by unfold turnF; rw [if_neg (by simpa using h)]

theorem asked_zero {t : Tri} {who : Int} : askedF t who false = 0 ↔ t.won = -1 ∧ turnF t = who ∧ t.steps ≠ 1 := by
  unfold askedF
  by_cases h : t.won = -1
  · by_cases h2 : turnF t = who <;> by_cases h3 : t.steps = 1 <;> simp [h, h2, h3]
  · simp [h]

theorem EInv.tell {k n : Nat} {t : Tri} (h : EInv k t n) (d : Dig) : EInv k (tellF t d).1 (if (tellF t d).2 = 0 then n + 1 else n) ∧ (tellF t d).1.steps = t.steps := by
  unfold tellF
  by_cases h0 : askedF t 0 false = 0
  · obtain ⟨hw, ht, hs⟩ := asked_zero.1 h0
    rw [if_neg (by simpa using h0)]
    obtain ⟨j, hj, e, hf, htd, hn⟩ := h
    have htold : t.told = false := by rw [turn_open hw] at ht; cases hh : t.told <;> simp_all
    refine ⟨⟨j, hj, e, hf, fun _ => ?_, .inl ⟨hw, ?_⟩⟩, rfl⟩
    · rcases Nat.eq_zero_or_pos j with rfl | h
      · exact absurd e hs
      · exact h
    · rcases hn with ⟨_, hn⟩ | ⟨hn, _⟩
      · simp [hn, htold]
      · rcases hn with hn | hn <;> rw [hw] at hn <;> cases hn
  · rw [if_pos h0]
    simp [h0]
    exact h

theorem EInv.choose {k n : Nat} {t : Tri} (h : EInv k t n) (f : Bool) : EInv k (chooseF t f).1 (if (chooseF t f).2 = 0 then n + 1 else n) ∧
    ((chooseF t f).2 = 0 → (chooseF t f).1.steps = t.steps / 2 ∧ 1 < t.steps) ∧ ((chooseF t f).2 ≠ 0 → (chooseF t f).1 = t) := by
  unfold chooseF
  by_cases h0 : askedF t 1 false = 0
  · obtain ⟨hw, ht, hs⟩ := asked_zero.1 h0
    rw [if_neg (by simpa using h0)]
    obtain ⟨j, hj, e, hf, htd, hn⟩ := h
    have htold : t.told = true := by rw [turn_open hw] at ht; cases hh : t.told <;> simp_all
    have h1 := htd htold
    obtain ⟨i, rfl⟩ : ∃ i, j = i + 1 := ⟨j - 1, by omega⟩
    have e2 : t.steps / 2 = 2 ^ i := by rw [e, Nat.pow_succ]; omega
    have hp : 0 < 2 ^ i := Nat.two_pow_pos i
    have e3 : t.steps = 2 * 2 ^ i := by rw [e, Nat.pow_succ]; omega
    rcases hn with ⟨_, hn⟩ | ⟨hn, _⟩
    · rw [htold] at hn
      cases f
      · simp only [Bool.false_eq_true, if_false, if_true]
        refine ⟨⟨i, by omega, e2, ?_, by simp, .inl ⟨hw, ?_⟩⟩, fun _ => ⟨by first | rfl | trivial, by omega⟩, by simp⟩
        · show t.fro + t.steps / 2 + t.steps / 2 ≤ 2 ^ k; omega
        · simp at hn ⊢; omega
      · simp only [if_true]
        refine ⟨⟨i, by omega, e2, ?_, by simp, .inl ⟨hw, ?_⟩⟩, fun _ => ⟨by first | rfl | trivial, by omega⟩, by simp⟩
        · show t.fro + t.steps / 2 ≤ 2 ^ k; omega
        · simp at hn ⊢; omega
    · rcases hn with hn | hn <;> rw [hw] at hn <;> cases hn
  · rw [if_pos h0]
    simp [h0]
    exact h

theorem EInv.silence {k n : Nat} {t : Tri} (h : EInv k t n) : EInv k (silenceF t).1 (if (silenceF t).2 = 0 then n + 1 else n) ∧ (silenceF t).1.steps = t.steps := by
  unfold silenceF
  obtain ⟨j, hj, e, hf, htd, hn⟩ := h
  by_cases hw : t.won = -1
  · rw [if_neg (by simpa using hw)]
    refine ⟨⟨j, hj, e, hf, htd, .inr ⟨?_, ?_⟩⟩, rfl⟩
    · show (if turnF t = 0 then (1 : Int) else 0) = 0 ∨ (if turnF t = 0 then (1 : Int) else 0) = 1
      split <;> simp
    · rcases hn with ⟨_, hn⟩ | ⟨hn, _⟩
      · simp [hn]
      · rcases hn with hn | hn <;> rw [hw] at hn <;> cases hn
  · rw [if_pos hw]
    simp
    exact ⟨j, hj, e, hf, htd, hn⟩

theorem EInv.small {k n : Nat} {t : Tri} (h : EInv k t n) : n ≤ 2 * k + 1 ∧ 1 ≤ t.steps ∧ t.steps ≤ 2 ^ k ∧ t.fro ≤ 2 ^ k ∧ (2 * k + 1 ≤ n → t.won ≠ -1) := by
  obtain ⟨j, hj, e, hf, htd, hn⟩ := h
  have hp : 0 < 2 ^ j := Nat.two_pow_pos j
  have ht : t.told.toNat ≤ 1 := Bool.toNat_le _
  have hq : t.told.toNat = 1 → 1 ≤ j := fun h => htd (by cases hh : t.told <;> simp_all)
  have hq : t.told.toNat = 0 ∨ 1 ≤ j := by
    rcases Nat.eq_zero_or_pos t.told.toNat with h | h
    · exact .inl h
    · exact .inr (hq (by omega))
  refine ⟨?_, by omega, by omega, by omega, ?_⟩
  · rcases hn with ⟨_, hn⟩ | ⟨_, hn⟩ <;> rcases hq with h | h <;> omega
  · intro h2 hw
    rcases hn with ⟨_, hn⟩ | ⟨hn, _⟩
    · rcases hq with h | h <;> omega
    · rcases hn with hn | hn <;> rw [hw] at hn <;> cases hn

end Go.Proofs.Ytdpcbehgoljgeaa
