/- The layer coin and its document: Right, Add, Sum, each by its walk. -/
import Derived.Test.YtoeoneiopcagfaaFrameS
import Derived.Test.YtoeoneiopcagfaaCoinA
namespace Go.Proofs.Ytoeoneiopcagfaa
open Go.RowKit

set_option maxRecDepth 100000 in
set_option maxHeartbeats 1000000 in
theorem rightC_any (n : Int) (w : World) : Calls Try.prog 42 #[.int .i64 n] w fun e w' => e = .returned (.bool (okA n)) ∧ w = w' := by
  have hc : (n < 0 ∧ okA n = false) ∨ (0 ≤ n ∧ n ≤ 1125899906842624 ∧ okA n = true) ∨ (0 ≤ n ∧ 1125899906842624 < n ∧ okA n = false) := by
    rcases Int.lt_or_le n 0 with h | h
    · exact .inl ⟨h, by simp [okA, h]; omega⟩
    · rcases Int.lt_or_le 1125899906842624 n with h2 | h2
      · exact .inr (.inr ⟨h, h2, by simp [okA]; omega⟩)
      · exact .inr (.inl ⟨h, h2, by simp [okA]; omega⟩)
  rcases hc with ⟨t1, e⟩ | ⟨t1, t2, e⟩ | ⟨t1, t2, e⟩
  all_goals
    rw [e]
    clear e
    go_enter Try.func42, Try.ntmps42
    go_wp2_with fail
    go_ret
    first | exact ⟨rfl, rfl⟩ | exact ⟨by simp; omega, rfl⟩

set_option maxRecDepth 100000 in
set_option maxHeartbeats 1000000 in
theorem addC_any (a b : Int) (w : World) : Calls Try.prog 39 #[.int .i64 a, .int .i64 b] w fun e w' => e = .returned (.tuple #[.int .i64 (addF a b).1, .int .i64 (addF a b).2]) ∧ w = w' := by
  rcases Bool.eq_false_or_eq_true (okA a) with t1 | t1
  · rcases Bool.eq_false_or_eq_true (okA b) with t2 | t2
    · obtain ⟨a0, a1⟩ := (okA_iff a).1 t1
      obtain ⟨b0, b1⟩ := (okA_iff b).1 t2
      have hw : wrap64 (a + b) = a + b := by go_arith
      rcases Bool.eq_false_or_eq_true (okA (a + b)) with t3 | t3
      · have e : addF a b = (a + b, 0) := by simp [addF, t1, t2, t3]
        rw [e]
        clear e
        go_enter Try.func39, Try.ntmps39
        go_wp2_with fail
        refine (rightC_any a w).mono ?_
        rintro e w1 ⟨rfl, rfl⟩
        go_wp2_with fail
        refine (rightC_any b w).mono ?_
        rintro e w1 ⟨rfl, rfl⟩
        go_wp2_with fail
        refine (rightC_any (a + b) w).mono ?_
        rintro e w1 ⟨rfl, rfl⟩
        go_wp2_with fail
        go_ret2
        exact ⟨rfl, rfl⟩
      · have e : addF a b = (0, 2) := by simp [addF, t3]
        rw [e]
        clear e
        go_enter Try.func39, Try.ntmps39
        go_wp2_with fail
        refine (rightC_any a w).mono ?_
        rintro e w1 ⟨rfl, rfl⟩
        go_wp2_with fail
        refine (rightC_any b w).mono ?_
        rintro e w1 ⟨rfl, rfl⟩
        go_wp2_with fail
        refine (rightC_any (a + b) w).mono ?_
        rintro e w1 ⟨rfl, rfl⟩
        go_wp2_with fail
        go_ret2
        exact ⟨rfl, rfl⟩
    · have e : addF a b = (0, 2) := by simp [addF, t2]
      rw [e]
      clear e
      go_enter Try.func39, Try.ntmps39
      go_wp2_with fail
      refine (rightC_any a w).mono ?_
      rintro e w1 ⟨rfl, rfl⟩
      go_wp2_with fail
      refine (rightC_any b w).mono ?_
      rintro e w1 ⟨rfl, rfl⟩
      go_wp2_with fail
      go_ret2
      exact ⟨rfl, rfl⟩
  · have e : addF a b = (0, 2) := by simp [addF, t1]
    rw [e]
    clear e
    go_enter Try.func39, Try.ntmps39
    go_wp2_with fail
    refine (rightC_any a w).mono ?_
    rintro e w1 ⟨rfl, rfl⟩
    go_wp2_with fail
    go_ret2
    exact ⟨rfl, rfl⟩

set_option maxRecDepth 100000 in
set_option maxHeartbeats 1000000 in
theorem sumC_any {w : World} {ao : Option Addr} {n c : Nat} {l : List Int} (hR : RdS intE w ao n c l) (hn : n ≤ 140737488351232) : Calls Try.prog 27 #[.slice ao n c] w fun e w' => e = .returned (.tuple #[.int .i64 (sumF 0 l).1, .int .i64 (sumF 0 l).2]) ∧ w = w' := by
  go_enter Try.func27, Try.ntmps27
  go_wp2_with fail
  go_loopw [4, 11] (fun v4 v5 wr => ∃ (i : Nat) (s : Int), v4 = .int .i64 s ∧ v5 = .int .i64 i ∧ i ≤ n ∧ sumF 0 l = sumF s (l.drop i) ∧ wr = w) (fun _ v5 _ => n - (intOf v5).toNat)
  case atStart => exact ⟨0, 0, rfl, rfl, Nat.zero_le _, rfl, rfl⟩
  case round =>
    obtain ⟨i, s, rfl, rfl, hin, hs, rfl⟩ := hrel
    by_cases hlt : i < n
    · obtain ⟨x, hx, hd, _⟩ := hR.next hlt
      obtain ⟨b, o, rfl, hcell⟩ := hR.int hx
      rw [hd, sumF] at hs
      clear hd
      have hc : ((addF s x).2 = 0 ∧ sumF 0 l = sumF (addF s x).1 (l.drop (i + 1))) ∨ (((addF s x).2 != 0) = true ∧ sumF 0 l = (0, (addF s x).2)) := by
        by_cases h0 : (addF s x).2 = 0
        · rw [if_pos h0] at hs; exact .inl ⟨h0, hs⟩
        · rw [if_neg h0] at hs; exact .inr ⟨by simpa using h0, hs⟩
      clear hs
      rcases hc with ⟨t1, t2⟩ | ⟨t1, t2⟩
      · have HS := hide t2
        clear t2
        go_wp2_with fail
        refine (addC_any s x wr).mono ?_
        rintro e w1 ⟨rfl, rfl⟩
        go_wp2_with fail
        go_roundw
        case rel => exact ⟨i + 1, _, rfl, by simp, by omega, HS.out, by first | rfl | trivial⟩
        case measure => simp [intOf]; omega
      · have HS := hide t2
        clear t2
        go_wp2_with fail
        refine (addC_any s x wr).mono ?_
        rintro e w1 ⟨rfl, rfl⟩
        go_wp2_with fail
        go_ret2
        exact ⟨by rw [HS.out]; rfl, by first | rfl | trivial⟩
    · have h0 : l.drop i = [] := hR.done (by omega)
      rw [h0, sumF] at hs
      have HS := hide hs
      clear hs h0
      go_wp2_with fail
      go_ret2
      exact ⟨by rw [HS.out]; rfl, by first | rfl | trivial⟩

set_option maxRecDepth 100000 in
set_option maxHeartbeats 1000000 in
theorem rightR_any (n : Int) (w : World) : Calls Try.prog 33 #[.int .i64 n] w fun e w' => e = .returned (.bool (okA n)) ∧ w = w' := by
  have hc : (n < 0 ∧ okA n = false) ∨ (0 ≤ n ∧ n ≤ 1125899906842624 ∧ okA n = true) ∨ (0 ≤ n ∧ 1125899906842624 < n ∧ okA n = false) := by
    rcases Int.lt_or_le n 0 with h | h
    · exact .inl ⟨h, by simp [okA, h]; omega⟩
    · rcases Int.lt_or_le 1125899906842624 n with h2 | h2
      · exact .inr (.inr ⟨h, h2, by simp [okA]; omega⟩)
      · exact .inr (.inl ⟨h, h2, by simp [okA]; omega⟩)
  rcases hc with ⟨t1, e⟩ | ⟨t1, t2, e⟩ | ⟨t1, t2, e⟩
  all_goals
    rw [e]
    clear e
    go_enter Try.func33, Try.ntmps33
    go_wp2_with fail
    go_ret
    first | exact ⟨rfl, rfl⟩ | exact ⟨by simp; omega, rfl⟩

set_option maxRecDepth 100000 in
set_option maxHeartbeats 1000000 in
theorem addR_any (a b : Int) (w : World) : Calls Try.prog 38 #[.int .i64 a, .int .i64 b] w fun e w' => e = .returned (.tuple #[.int .i64 (addF a b).1, .int .i64 (addF a b).2]) ∧ w = w' := by
  rcases Bool.eq_false_or_eq_true (okA a) with t1 | t1
  · rcases Bool.eq_false_or_eq_true (okA b) with t2 | t2
    · obtain ⟨a0, a1⟩ := (okA_iff a).1 t1
      obtain ⟨b0, b1⟩ := (okA_iff b).1 t2
      have hw : wrap64 (a + b) = a + b := by go_arith
      rcases Bool.eq_false_or_eq_true (okA (a + b)) with t3 | t3
      · have e : addF a b = (a + b, 0) := by simp [addF, t1, t2, t3]
        rw [e]
        clear e
        go_enter Try.func38, Try.ntmps38
        go_wp2_with fail
        refine (rightR_any a w).mono ?_
        rintro e w1 ⟨rfl, rfl⟩
        go_wp2_with fail
        refine (rightR_any b w).mono ?_
        rintro e w1 ⟨rfl, rfl⟩
        go_wp2_with fail
        refine (rightR_any (a + b) w).mono ?_
        rintro e w1 ⟨rfl, rfl⟩
        go_wp2_with fail
        go_ret2
        exact ⟨rfl, rfl⟩
      · have e : addF a b = (0, 2) := by simp [addF, t3]
        rw [e]
        clear e
        go_enter Try.func38, Try.ntmps38
        go_wp2_with fail
        refine (rightR_any a w).mono ?_
        rintro e w1 ⟨rfl, rfl⟩
        go_wp2_with fail
        refine (rightR_any b w).mono ?_
        rintro e w1 ⟨rfl, rfl⟩
        go_wp2_with fail
        refine (rightR_any (a + b) w).mono ?_
        rintro e w1 ⟨rfl, rfl⟩
        go_wp2_with fail
        go_ret2
        exact ⟨rfl, rfl⟩
    · have e : addF a b = (0, 2) := by simp [addF, t2]
      rw [e]
      clear e
      go_enter Try.func38, Try.ntmps38
      go_wp2_with fail
      refine (rightR_any a w).mono ?_
      rintro e w1 ⟨rfl, rfl⟩
      go_wp2_with fail
      refine (rightR_any b w).mono ?_
      rintro e w1 ⟨rfl, rfl⟩
      go_wp2_with fail
      go_ret2
      exact ⟨rfl, rfl⟩
  · have e : addF a b = (0, 2) := by simp [addF, t1]
    rw [e]
    clear e
    go_enter Try.func38, Try.ntmps38
    go_wp2_with fail
    refine (rightR_any a w).mono ?_
    rintro e w1 ⟨rfl, rfl⟩
    go_wp2_with fail
    go_ret2
    exact ⟨rfl, rfl⟩

set_option maxRecDepth 100000 in
set_option maxHeartbeats 1000000 in
theorem sumR_any {w : World} {ao : Option Addr} {n c : Nat} {l : List Int} (hR : RdS intE w ao n c l) (hn : n ≤ 140737488351232) : Calls Try.prog 25 #[.slice ao n c] w fun e w' => e = .returned (.tuple #[.int .i64 (sumF 0 l).1, .int .i64 (sumF 0 l).2]) ∧ w = w' := by
  go_enter Try.func25, Try.ntmps25
  go_wp2_with fail
  go_loopw [4, 5] (fun v4 v5 wr => ∃ (i : Nat) (s : Int), v4 = .int .i64 s ∧ v5 = .int .i64 i ∧ i ≤ n ∧ sumF 0 l = sumF s (l.drop i) ∧ wr = w) (fun _ v5 _ => n - (intOf v5).toNat)
  case atStart => exact ⟨0, 0, rfl, rfl, Nat.zero_le _, rfl, rfl⟩
  case round =>
    obtain ⟨i, s, rfl, rfl, hin, hs, rfl⟩ := hrel
    by_cases hlt : i < n
    · obtain ⟨x, hx, hd, _⟩ := hR.next hlt
      obtain ⟨b, o, rfl, hcell⟩ := hR.int hx
      rw [hd, sumF] at hs
      clear hd
      have hc : ((addF s x).2 = 0 ∧ sumF 0 l = sumF (addF s x).1 (l.drop (i + 1))) ∨ (((addF s x).2 != 0) = true ∧ sumF 0 l = (0, (addF s x).2)) := by
        by_cases h0 : (addF s x).2 = 0
        · rw [if_pos h0] at hs; exact .inl ⟨h0, hs⟩
        · rw [if_neg h0] at hs; exact .inr ⟨by simpa using h0, hs⟩
      clear hs
      rcases hc with ⟨t1, t2⟩ | ⟨t1, t2⟩
      · have HS := hide t2
        clear t2
        go_wp2_with fail
        refine (addR_any s x wr).mono ?_
        rintro e w1 ⟨rfl, rfl⟩
        go_wp2_with fail
        go_roundw
        case rel => exact ⟨i + 1, _, rfl, by simp, by omega, HS.out, by first | rfl | trivial⟩
        case measure => simp [intOf]; omega
      · have HS := hide t2
        clear t2
        go_wp2_with fail
        refine (addR_any s x wr).mono ?_
        rintro e w1 ⟨rfl, rfl⟩
        go_wp2_with fail
        go_ret2
        exact ⟨by rw [HS.out]; rfl, by first | rfl | trivial⟩
    · have h0 : l.drop i = [] := hR.done (by omega)
      rw [h0, sumF] at hs
      have HS := hide hs
      clear hs h0
      go_wp2_with fail
      go_ret2
      exact ⟨by rw [HS.out]; rfl, by first | rfl | trivial⟩
end Go.Proofs.Ytoeoneiopcagfaa
