/- Of the statement FundAll: all is held just if all are laid; what a seat gets back: plain laws. -/
import Derived.Test.YtoeoneiopcagfaaFundK
namespace Go.Proofs.Ytoeoneiopcagfaa
open Go.RowKit

theorem held_full {f : FundX} (hk : f.Ok) : heldF f = f.stakes.sum ↔ fullF f = true := by
  obtain ⟨st, due, laid⟩ := f
  have hp := hk.pos
  have hl := hk.len
  clear hk
  have key : ∀ (st : List Int) (laid : List Bool), (∀ x ∈ st, 0 < x) → laid.length = st.length →
      (List.zipWith (fun s b => if b then s else 0) st laid).sum ≤ st.sum ∧ ((List.zipWith (fun s b => if b then s else 0) st laid).sum = st.sum ↔ laid.all id = true) := by
    intro st
    induction st with
    | nil => intro laid _ h; cases laid with
      | nil => simp
      | cons b l => simp at h
    | cons s st ih =>
      intro laid hp hl
      cases laid with
      | nil => simp at hl
      | cons b laid =>
        obtain ⟨i1, i2⟩ := ih laid (fun x hx => hp x (List.mem_cons_of_mem _ hx)) (by simpa using hl)
        have h1 := hp s (List.mem_cons_self ..)
        simp only [List.zipWith_cons_cons, List.sum_cons, List.all_cons, id]
        cases b
        · simp only [Bool.false_eq_true, if_false, Bool.false_and]
          exact ⟨by omega, by constructor <;> intro h <;> first | omega | cases h⟩
        · simp only [if_true, Bool.true_and]
          rw [← i2]
          exact ⟨by omega, by constructor <;> intro h <;> omega⟩
  unfold heldF givens fullF
  exact (key st laid hp hl).2

/-- What a seat that is there gets back. -/
theorem back_of {f : FundX} (hk : f.Ok) {k : Nat} (h : k < f.stakes.length) :
    (0 < givenF f k ∧ fullF f = false ∧ (backF f k).2 = (givenF f k, 0)) ∨ ((givenF f k = 0 ∨ fullF f = true) ∧ 0 ≤ givenF f k ∧ (backF f k).2.1 = 0 ∧ (backF f k).2.2 ≠ 0) := by
  obtain ⟨z0, z1, z2⟩ := given_bound hk h
  have hb : backF f k = if f.laid.getD k false = false then (f, 0, 9) else if fullF f = true then (f, 0, 10) else ({ f with laid := f.laid.set k false }, f.stakes.getD k 0, 0) := by
    unfold backF
    rw [if_neg (by rw [there_iff.2 ⟨k, rfl, h⟩]; simp)]
    rfl
  rw [hb, z2, givens_at hk h]
  clear hb z2
  have hm : f.stakes.getD k 0 ∈ f.stakes := by rw [List.getD_eq_getElem?_getD, List.getElem?_eq_getElem h]; exact List.getElem_mem h
  have hp := hk.pos _ hm
  cases h2 : f.laid.getD k false
  · right; simp
  · simp only [if_true, Bool.true_eq_false, if_false]
    by_cases h3 : fullF f = true
    · right; rw [if_pos h3]; exact ⟨.inr h3, by omega, rfl, by simp⟩
    · rw [if_neg h3]
      left
      exact ⟨hp, by simpa using h3, rfl⟩
end Go.Proofs.Ytoeoneiopcagfaa
