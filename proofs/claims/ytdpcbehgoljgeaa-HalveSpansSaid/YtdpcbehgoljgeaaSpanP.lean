/- How a trial's span stands behind deeds: plain laws. -/
import Derived.Test.YtdpcbehgoljgeaaHalF
import Derived.Test.YtdpcbehgoljgeaaHalG
import Derived.Test.YtdpcbehgoljgeaaHalP
namespace Go.Proofs.Ytdpcbehgoljgeaa
open Go.RowKit

/-- How a trial of 2 to the k steps stands, of which the digests l were said. -/
def SInv (k : Nat) (t : Tri) (l : List Dig) : Prop := ∃ j, j ≤ k ∧ t.steps = 2 ^ j ∧ t.steps ∣ t.fro ∧ t.fro + t.steps ≤ 2 ^ k ∧ t.ahead ∈ l ∧ t.behind ∈ l ∧ (t.told = true → 1 ≤ j ∧ t.mid ∈ l)

theorem SInv.start (k : Nat) (p a b : Dig) (z : Int) : SInv k ⟨0, 2 ^ k, a, b, p, z, dig0, false, -1⟩ [a, b] := ⟨k, Nat.le_refl _, rfl, Nat.dvd_zero _, by simp, by simp, by simp, by simp⟩

theorem SInv.tell {k : Nat} {t : Tri} {l : List Dig} (h : SInv k t l) (d : Dig) : SInv k (tellF t d).1 (if (tellF t d).2 = 0 then l ++ [d] else l) := by
  unfold tellF
  obtain ⟨j, hj, e, hd, hf, ha, hb, ht⟩ := h
  by_cases h0 : askedF t 0 false = 0
  · obtain ⟨hw, hT, hs⟩ := asked_zero.1 h0
    rw [if_neg (by simpa using h0)]
    refine ⟨j, hj, e, hd, hf, by simp [ha], by simp [hb], fun _ => ⟨?_, by simp⟩⟩
    rcases Nat.eq_zero_or_pos j with rfl | h
    · exact absurd e hs
    · exact h
  · rw [if_pos h0, if_neg h0]
    exact ⟨j, hj, e, hd, hf, ha, hb, ht⟩

theorem SInv.choose {k : Nat} {t : Tri} {l : List Dig} (h : SInv k t l) (f : Bool) : SInv k (chooseF t f).1 l := by
  unfold chooseF
  by_cases h0 : askedF t 1 false = 0
  · obtain ⟨hw, ht, hs⟩ := asked_zero.1 h0
    rw [if_neg (by simpa using h0)]
    obtain ⟨j, hj, e, hd, hf, ha, hb, htd⟩ := h
    have htold : t.told = true := by rw [turn_open hw] at ht; cases hh : t.told <;> simp_all
    obtain ⟨h1, hm⟩ := htd htold
    obtain ⟨i, rfl⟩ : ∃ i, j = i + 1 := ⟨j - 1, by omega⟩
    have e2 : t.steps / 2 = 2 ^ i := by rw [e, Nat.pow_succ]; omega
    have hp : 0 < 2 ^ i := Nat.two_pow_pos i
    have e3 : t.steps = t.steps / 2 * 2 := by rw [e2, e, Nat.pow_succ]
    have hdv : t.steps / 2 ∣ t.fro := Nat.dvd_trans ⟨2, e3⟩ hd
    cases f
    · simp only [Bool.false_eq_true, if_false]
      exact ⟨i, by omega, e2, (Nat.dvd_add_right hdv).2 (Nat.dvd_refl _), by show t.fro + t.steps / 2 + t.steps / 2 ≤ 2 ^ k; omega, hm, hb, by simp⟩
    · simp only [if_true]
      exact ⟨i, by omega, e2, hdv, by show t.fro + t.steps / 2 ≤ 2 ^ k; omega, ha, hm, by simp⟩
  · rw [if_pos h0]
    exact h

theorem and_pred : ∀ j : Fin 21, bits .and .i64 ((2 : Int) ^ j.1) ((2 : Int) ^ j.1 - 1) = 0 := by decide +kernel

/-- What the statement asks of a span, in the walk's words. -/
theorem SInv.facts {k : Nat} {t : Tri} {l : List Dig} (h : SInv k t l) (hk : k ≤ 20) :
    (1 : Int) ≤ t.steps ∧ bits .and .i64 (t.steps : Int) ((t.steps : Int) - 1) = 0 ∧ (t.fro : Int) % (t.steps : Int) = 0 ∧ (t.fro : Int) + t.steps ≤ (2 : Int) ^ k ∧ (2 : Int) ^ k ≤ 1048576 ∧ t.ahead ∈ l ∧ t.behind ∈ l := by
  obtain ⟨j, hj, e, hd, hf, ha, hb, _⟩ := h
  have hp : 0 < 2 ^ j := Nat.two_pow_pos j
  have h20 : 2 ^ k ≤ 2 ^ 20 := Nat.pow_le_pow_right (by omega) hk
  have e2 : (t.steps : Int) = (2 : Int) ^ j := by rw [e]; simp
  have e3 : (2 : Int) ^ k = ((2 ^ k : Nat) : Int) := by simp
  refine ⟨by omega, by rw [e2]; exact and_pred ⟨j, by omega⟩, ?_, ?_, ?_, ha, hb⟩
  · obtain ⟨q, hq⟩ := hd
    rw [hq]
    simp
  · rw [e3]; omega
  · rw [e3]; simp at h20 ⊢; omega

end Go.Proofs.Ytdpcbehgoljgeaa
