/- The layer fund: New, there, Lay, Stakes, Given, Held, each by its walk. -/
import Derived.Test.YtoeoneiopcagfaaFundA
import Derived.Test.YtoeoneiopcagfaaCoinBs
namespace Go.Proofs.Ytoeoneiopcagfaa
open Go.RowKit

/-- What New says of stakes and a height. -/
def newFErr (l : List Int) (due : Int) : Int := if l.length < 2 ∨ 8 < l.length then 1 else if (sumF 0 l).2 ≠ 0 ∨ 0 ∈ l ∨ due < 0 ∨ 1099511627776 < due then 2 else 0

theorem sumF_parts : ∀ (l : List Int) (n : Int), (sumF n l).2 = 0 → (sumF n l).1 = n + l.sum ∧ (∀ x ∈ l, 0 ≤ x) ∧ (l ≠ [] → n + l.sum ≤ 1125899906842624)
  | [], n, _ => ⟨by simp [sumF], (fun x hx => by cases hx), fun h => absurd rfl h⟩
  | x :: l, n, h => by
    unfold sumF at h ⊢
    split at h
    · next h0 =>
      obtain ⟨e, h1, h2, h3⟩ := addF_ok h0
      rw [if_pos h0]
      rw [e] at h ⊢
      obtain ⟨i1, i2, i3⟩ := sumF_parts l (n + x) h
      refine ⟨by rw [i1]; simp; omega, fun y hy => ?_, fun _ => ?_⟩
      · rcases List.mem_cons.1 hy with rfl | hy
        · exact h2
        · exact i2 y hy
      · cases l with
        | nil => simp; omega
        | cons y l => have := i3 (by simp); simp at this ⊢; omega
    · next h0 => exact absurd h h0

theorem newF_ok {l : List Int} {due : Int} (h : newFErr l due = 0) : 2 ≤ l.length ∧ l.length ≤ 8 ∧ (sumF 0 l).2 = 0 ∧ 0 ∉ l ∧ 0 ≤ due ∧ due ≤ 1099511627776 ∧ FundX.Ok ⟨l, due, List.replicate l.length false⟩ := by
  unfold newFErr at h
  split at h
  · cases h
  · next h1 =>
    split at h
    · cases h
    · next h2 =>
      have h3 : (sumF 0 l).2 = 0 := by
        rcases Classical.em ((sumF 0 l).2 = 0) with h | h
        · exact h
        · exact absurd (.inl h) h2
      have h4 : 0 ∉ l := fun h => h2 (.inr (.inl h))
      obtain ⟨i1, i2, i3⟩ := sumF_parts l 0 h3
      have hne : l ≠ [] := fun e => by subst e; simp at h1
      have := i3 hne
      have h5 : ¬ due < 0 := fun h => h2 (.inr (.inr (.inl h)))
      have h6 : ¬ 1099511627776 < due := fun h => h2 (.inr (.inr (.inr h)))
      refine ⟨by omega, by omega, h3, h4, by omega, by omega, ⟨by simp, by show 2 ≤ l.length; omega, by show l.length ≤ 8; omega, fun x hx => ?_, by show l.sum ≤ _; omega⟩⟩
      have h7 := i2 x hx
      have h8 : x ≠ 0 := fun e => h4 (e ▸ hx)
      omega

theorem newF_no {l : List Int} {due : Int} (h : newFErr l due ≠ 0) :
    (l.length < 2 ∧ newFErr l due = 1) ∨ (8 < l.length ∧ newFErr l due = 1) ∨ (2 ≤ l.length ∧ l.length ≤ 8 ∧ ((sumF 0 l).2 != 0) = true ∧ newFErr l due = 2) ∨
    (2 ≤ l.length ∧ l.length ≤ 8 ∧ (sumF 0 l).2 = 0 ∧ 0 ∈ l ∧ newFErr l due = 2) ∨ (2 ≤ l.length ∧ l.length ≤ 8 ∧ (sumF 0 l).2 = 0 ∧ 0 ∉ l ∧ due < 0 ∧ newFErr l due = 2) ∨
    (2 ≤ l.length ∧ l.length ≤ 8 ∧ (sumF 0 l).2 = 0 ∧ 0 ∉ l ∧ 0 ≤ due ∧ 1099511627776 < due ∧ newFErr l due = 2) := by
  unfold newFErr at h ⊢
  by_cases h1 : l.length < 2
  · left; simp [h1]
  · by_cases h2 : 8 < l.length
    · right; left; simp [h2]
    · rw [if_neg (by omega)] at h ⊢
      by_cases h3 : (sumF 0 l).2 = 0
      · by_cases h4 : 0 ∈ l
        · right; right; right; left; exact ⟨by omega, by omega, h3, h4, by simp [h4]⟩
        · by_cases h5 : due < 0
          · right; right; right; right; left; exact ⟨by omega, by omega, h3, h4, h5, by simp [h5]⟩
          · by_cases h6 : 1099511627776 < due
            · right; right; right; right; right; exact ⟨by omega, by omega, h3, h4, by omega, h6, by simp [h6]⟩
            · exact absurd (by rw [if_neg]; intro h; rcases h with h | h | h | h; exact h h3; exact h4 h; exact h5 h; exact h6 h) h
      · right; right; left; exact ⟨by omega, by omega, by simpa using h3, by simp [h3]⟩

set_option maxRecDepth 100000 in
set_option maxHeartbeats 2000000 in
theorem fundnew_no {w : World} {ao : Option Addr} {n c : Nat} {l : List Int} {due : Int} (hR : RdS intE w ao n c l) (hn : n ≤ 140737488351232) (h : newFErr l due ≠ 0) :
    Calls Try.prog 11 #[.slice ao n c, .int .i64 due] w fun e w' => e = .returned (.tuple #[.pointer none, .int .i64 (newFErr l due)]) ∧ w = w' := by
  have hc := newF_no h
  rw [hR.len] at hc
  clear h
  rcases hc with ⟨t1, e⟩ | ⟨t1, e⟩ | ⟨t1, t2, t3, e⟩ | ⟨t1, t2, t3, t4, e⟩ | ⟨t1, t2, t3, t4, t5, e⟩ | ⟨t1, t2, t3, t4, t5, t6, e⟩
  · have u1 : (n : Int) < 2 := by omega
    have HE := hide e
    clear e t1
    go_enter Try.func11, Try.ntmps11
    go_wp2_with fail
    go_ret2
    exact ⟨by rw [HE.out]; rfl, rfl⟩
  · have u1 : (2 : Int) ≤ n := by omega
    have u2 : (8 : Int) < n := by omega
    have HE := hide e
    clear e t1
    go_enter Try.func11, Try.ntmps11
    go_wp2_with fail
    go_ret2
    exact ⟨by rw [HE.out]; rfl, rfl⟩
  all_goals
    have u1 : (2 : Int) ≤ n := by omega
    have u2 : (n : Int) ≤ 8 := by omega
    have HE := hide e
    clear e t1 t2
  · go_enter Try.func11, Try.ntmps11
    go_wp2_with fail
    refine (sumC_any hR hn).mono ?_
    rintro e w1 ⟨rfl, rfl⟩
    go_wp2_with fail
    go_ret2
    exact ⟨by rw [HE.out]; rfl, rfl⟩
  · have T4 := hide (decide_eq_true t4)
    clear t4
    go_enter Try.func11, Try.ntmps11
    go_wp2_with fail
    refine (sumC_any hR hn).mono ?_
    rintro e w1 ⟨rfl, rfl⟩
    go_wp2_with fail
    refine (contains_any hR hn).mono ?_
    rintro e w1 ⟨rfl, rfl⟩
    rw [T4.out]
    go_wp2_with fail
    go_ret2
    exact ⟨by rw [HE.out]; rfl, rfl⟩
  · have T4 := hide (decide_eq_false t4)
    clear t4
    go_enter Try.func11, Try.ntmps11
    go_wp2_with fail
    refine (sumC_any hR hn).mono ?_
    rintro e w1 ⟨rfl, rfl⟩
    go_wp2_with fail
    refine (contains_any hR hn).mono ?_
    rintro e w1 ⟨rfl, rfl⟩
    rw [T4.out]
    go_wp2_with fail
    go_ret2
    exact ⟨by rw [HE.out]; rfl, rfl⟩
  · have T4 := hide (decide_eq_false t4)
    clear t4
    go_enter Try.func11, Try.ntmps11
    go_wp2_with fail
    refine (sumC_any hR hn).mono ?_
    rintro e w1 ⟨rfl, rfl⟩
    go_wp2_with fail
    refine (contains_any hR hn).mono ?_
    rintro e w1 ⟨rfl, rfl⟩
    rw [T4.out]
    go_wp2_with fail
    go_ret2
    exact ⟨by rw [HE.out]; rfl, rfl⟩

theorem fundL_start (so : Option Addr) (c : Nat) (l : List Int) (due : Int) {n : Nat} (hl : l.length = n) (h : n ≤ 8) :
    fundL so c ⟨l, due, List.replicate n false⟩ = [.slice so n c, .int .i64 due, .bool false, .bool false, .bool false, .bool false, .bool false, .bool false, .bool false, .bool false] := by
  unfold fundL padL boolL
  show [Value.slice so l.length c, .int .i64 due] ++ List.map Value.bool (List.replicate n false ++ List.replicate (8 - l.length) false) = _
  rw [hl, List.replicate_append_replicate, show n + (8 - n) = 8 by omega]
  rfl

set_option maxRecDepth 100000 in
set_option maxHeartbeats 2000000 in
theorem fundnew_ok {w : World} {ao : Option Addr} {n c : Nat} {l : List Int} {due : Int} (hR : RdS intE w ao n c l) (hn : n ≤ 140737488351232) (h : newFErr l due = 0) :
    Calls Try.prog 11 #[.slice ao n c, .int .i64 due] w fun e w' => ∃ g, e = .returned (.tuple #[.pointer (some ⟨g, 0, none⟩), .int .i64 0]) ∧ FundP w' w.heap.size g ⟨l, due, List.replicate n false⟩ ∧ FundX.Ok ⟨l, due, List.replicate n false⟩ ∧ Below w.heap.size w w' := by
  obtain ⟨t1, t2, t3, t4, t5, t6, hk⟩ := newF_ok h
  have hlen := hR.len
  rw [hlen] at t1 t2 hk
  have u1 : (2 : Int) ≤ n := by omega
  have u2 : (n : Int) ≤ 8 := by omega
  have T4 := hide (decide_eq_false t4)
  have HL := hide hlen
  clear t4 h hlen
  go_enter Try.func11, Try.ntmps11
  go_wp2_with fail
  refine (sumC_any hR hn).mono ?_
  rintro e w1 ⟨rfl, rfl⟩
  go_wp2_with fail
  refine (contains_any hR hn).mono ?_
  rintro e w1 ⟨rfl, rfl⟩
  rw [T4.out]
  go_wp2_with fail
  refine (cloneI_any hR (by omega)).mono ?_
  rintro e w1 ⟨so, c2, rfl, ho, hb⟩
  go_wp2_with fail
  go_ret2
  refine ⟨w1.heap.size, rfl, ⟨so, c2, ⟨hb.size, ?_, ?_, ?_⟩⟩, hk, below_trans hb (below_alloc _ _)⟩
  · rw [fundL_start so c2 l due HL.out t2]
    exact heap_alloc_new w1 _
  · rw [HL.out]; exact ho.below (below_alloc w1 _)
  · show (Value.slice so l.length c2).ownBlock ≠ _
    cases so with
    | none => simp [Value.ownBlock]
    | some ad =>
      obtain ⟨g3, rfl, _, hb3⟩ := ho.addr ad rfl
      simp [Value.ownBlock]
      omega

set_option maxRecDepth 100000 in
set_option maxHeartbeats 1000000 in
theorem there_any {w : World} {base g c : Nat} {so : Option Addr} {f : FundX} {seat : Int} (h : FundQ w base g so c f) :
    Calls Try.prog 30 #[.pointer (some ⟨g, 0, none⟩), .int .i64 seat] w fun e w' => e = .returned (.bool (thereF f.stakes.length seat)) ∧ w = w' := by
  have c1 := h.c_stakes
  generalize f.stakes.length = n at *
  have hc : (seat < 0 ∧ thereF n seat = false) ∨ (0 ≤ seat ∧ (n : Int) ≤ seat ∧ thereF n seat = false) ∨ (0 ≤ seat ∧ seat < (n : Int) ∧ thereF n seat = true) := by
    unfold thereF
    rcases Int.lt_or_le seat 0 with h | h
    · left; exact ⟨h, by simp; omega⟩
    · rcases Int.lt_or_le seat (n : Int) with h2 | h2
      · right; right; exact ⟨h, h2, by simp [h, h2]⟩
      · right; left; exact ⟨h, h2, by simp; omega⟩
  rcases hc with ⟨t1, e⟩ | ⟨t1, t2, e⟩ | ⟨t1, t2, e⟩
  all_goals
    have HE := hide e
    clear e
    go_enter Try.func30, Try.ntmps30
    go_wp2_with fail
    go_ret
    exact ⟨by rw [HE.out]; first | rfl | (simp; omega) | simp, rfl⟩

set_option maxRecDepth 100000 in
set_option maxHeartbeats 1000000 in
theorem stakes_any {w : World} {base g : Nat} {f : FundX} (h : FundP w base g f) (hk : f.Ok) :
    Calls Try.prog 13 #[.pointer (some ⟨g, 0, none⟩)] w fun e w' => ∃ ao c, e = .returned (.slice ao f.stakes.length c) ∧ OwnS intE w' w.heap.size ao f.stakes.length c f.stakes ∧ Below w.heap.size w w' := by
  obtain ⟨so, sc, h⟩ := h
  have c1 := h.c_stakes
  have hm := hk.most
  go_enter Try.func13, Try.ntmps13
  go_wp2_with fail
  refine (cloneI_any h.own.rd (by omega)).mono ?_
  rintro e w1 ⟨ao, c2, rfl, ho, hb⟩
  go_wp2_with fail
  go_ret
  exact ⟨ao, c2, rfl, ho, hb⟩
end Go.Proofs.Ytoeoneiopcagfaa
