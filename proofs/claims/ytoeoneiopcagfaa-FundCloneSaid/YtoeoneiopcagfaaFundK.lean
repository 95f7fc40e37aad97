/- Of the statement FundKeeps: what each has laid behind an act: plain laws. -/
import Derived.Test.YtoeoneiopcagfaaFundG
namespace Go.Proofs.Ytoeoneiopcagfaa
open Go.RowKit

theorem givens_set {f : FundX} (hk : f.Ok) {k : Nat} (h : k < f.stakes.length) (b : Bool) : givens { f with laid := f.laid.set k b } = (givens f).set k (if b = true then f.stakes.getD k 0 else 0) := by
  have hl := hk.len
  unfold givens
  refine List.ext_getElem (by simp) fun i h1 h2 => ?_
  have hi : i < f.stakes.length := by simp at h1; omega
  simp only [List.getElem_zipWith, List.getElem_set]
  by_cases e : k = i
  · subst e
    simp [List.getD_eq_getElem?_getD, List.getElem?_eq_getElem hi]
  · simp [e]

theorem back_in {f : FundX} (hk : f.Ok) (seat : Int) : ((backF f seat).2.2 = 0 ∧ ∃ k : Nat, seat = k ∧ k < f.stakes.length ∧ (givens f).getD k 0 = (backF f seat).2.1 ∧ givens (backF f seat).1 = (givens f).set k 0) ∨
    ((backF f seat).2.2 ≠ 0 ∧ (backF f seat).2.1 = 0 ∧ (backF f seat).1 = f) := by
  unfold backF
  by_cases ht : thereF f.stakes.length seat = true
  · obtain ⟨k, rfl, hkl⟩ := there_iff.1 ht
    rw [if_neg (by rw [ht]; simp)]
    simp only [Int.toNat_natCast]
    cases h2 : f.laid.getD k false
    · right; simp
    · rw [if_neg (by simp)]
      by_cases h3 : fullF f = true
      · right; simp [h3]
      · rw [if_neg h3]
        left
        refine ⟨rfl, k, rfl, hkl, ?_, ?_⟩
        · rw [givens_at hk hkl, if_pos h2]
        · rw [givens_set hk hkl false]; simp
  · have ht : thereF f.stakes.length seat = false := by simpa using ht
    right
    simp [ht]

theorem lay_in {f : FundX} (hk : f.Ok) (seat amount now : Int) : ((layF f seat amount now).2 = 0 ∧ ∃ k : Nat, seat = k ∧ k < f.stakes.length ∧ (givens f).getD k 0 = 0 ∧ 0 ≤ amount ∧ amount ≤ 1125899906842624 ∧ givens (layF f seat amount now).1 = (givens f).set k amount) ∨
    ((layF f seat amount now).2 ≠ 0 ∧ (layF f seat amount now).1 = f) := by
  unfold layF
  by_cases ht : thereF f.stakes.length seat = true
  · obtain ⟨k, rfl, hkl⟩ := there_iff.1 ht
    rw [if_neg (by rw [ht]; simp)]
    simp only [Int.toNat_natCast]
    by_cases h1 : f.due < now
    · right; simp [h1]
    · rw [if_neg h1]
      cases h2 : f.laid.getD k false
      · rw [if_neg (by simp)]
        by_cases h3 : amount = f.stakes.getD k 0
        · rw [if_pos h3]
          have hm : f.stakes.getD k 0 ∈ f.stakes := by rw [List.getD_eq_getElem?_getD, List.getElem?_eq_getElem hkl]; exact List.getElem_mem hkl
          have hp := hk.pos _ hm
          have hs := (mem_le_sum f.stakes (fun x hx => by have := hk.pos x hx; omega)).2 _ hm
          have hs2 := hk.sum
          left
          refine ⟨rfl, k, rfl, hkl, ?_, by omega, by omega, ?_⟩
          · rw [givens_at hk hkl, if_neg (by rw [h2]; simp)]
          · rw [givens_set hk hkl true, h3]; simp
        · right; rw [if_neg h3]; simp
      · right; simp
  · have ht : thereF f.stakes.length seat = false := by simpa using ht
    right
    simp [ht]

theorem layF_stakes (f : FundX) (a b c : Int) : (layF f a b c).1.stakes = f.stakes := by
  unfold layF
  split
  · rfl
  · split
    · rfl
    · split
      · rfl
      · split <;> rfl
theorem backF_stakes (f : FundX) (a : Int) : (backF f a).1.stakes = f.stakes := by
  unfold backF
  split
  · rfl
  · split
    · rfl
    · split <;> rfl

theorem givens_start (l : List Int) (due : Int) {n : Nat} (hl : l.length = n) : givens ⟨l, due, List.replicate n false⟩ = List.replicate n 0 := by
  subst hl
  unfold givens
  refine List.ext_getElem (by simp) fun i h1 h2 => ?_
  simp

theorem given_bound {f : FundX} (hk : f.Ok) {k : Nat} (h : k < f.stakes.length) : 0 ≤ (givens f).getD k 0 ∧ (givens f).getD k 0 ≤ 1125899906842624 ∧ givenF f (k : Int) = (givens f).getD k 0 := by
  obtain ⟨g1, g2⟩ := givens_pos hk
  have hx : (givens f)[k]? = some ((givens f).getD k 0) := getD_some (by rw [givens_len hk]; exact h)
  have hm := List.mem_of_getElem? hx
  have h1 := (mem_le_sum _ g1).2 _ hm
  have h2 := hk.sum
  exact ⟨g1 _ hm, by omega, by unfold givenF; rw [if_pos (there_iff.2 ⟨k, rfl, h⟩)]; rfl⟩
end Go.Proofs.Ytoeoneiopcagfaa
