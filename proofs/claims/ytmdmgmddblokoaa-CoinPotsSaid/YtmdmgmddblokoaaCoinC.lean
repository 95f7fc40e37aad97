/- The layer coin and its document: Alike, weigh, each by its walk. -/
import Derived.Test.YtmdmgmddblokoaaCoinB
namespace Go.Proofs.Ytmdmgmddblokoaa
open Go.RowKit

set_option maxRecDepth 100000 in
set_option maxHeartbeats 1000000 in
theorem alike_any {w : World} {ao ao2 : Option Addr} {n c n2 c2 : Nat} {l l2 : List Int} (hR : RdS intE w ao n c l) (hR2 : RdS intE w ao2 n2 c2 l2) (hn : n ≤ 140737488351232) (hn2 : n2 ≤ 140737488351232) :
    Calls Try.prog 13 #[.slice ao n c, .slice ao2 n2 c2] w fun e w' => e = .returned (.bool (decide (l = l2))) ∧ Below w.heap.size w w' := by
  by_cases hnn : n = n2
  · subst hnn
    go_enter Try.func13, Try.ntmps13
    go_wp2_with fail
    go_loopw [5] (fun v5 wr => ∃ (i : Nat), v5 = .int .i64 i ∧ i ≤ n ∧ (l = l2 ↔ l.drop i = l2.drop i) ∧ Below w.heap.size w wr) (fun v5 _ => n - (intOf v5).toNat)
    case atStart => exact ⟨0, rfl, Nat.zero_le _, by simp, Below.refl _ _⟩
    case round =>
      obtain ⟨i, rfl, hin, hs, hW⟩ := hrel
      by_cases hlt : i < n
      · obtain ⟨x, hx, hd, _⟩ := hR.next hlt
        obtain ⟨y, hy, hd2, _⟩ := hR2.next hlt
        rw [hd, hd2, List.cons.injEq] at hs
        have HS := hide hs
        clear hs hd hd2
        have hRw := hR.below hW
        have hRw2 := hR2.below hW
        obtain ⟨b, o, rfl, c1⟩ := hRw.int hx
        obtain ⟨b2, o2, rfl, c2⟩ := hRw2.int hy
        by_cases hxy : x = y
        · have t1 : (x == y) = true := by simp [hxy]
          go_wp2_with fail
          go_quiet (fail)
          go_wp2_with fail
          go_roundw
          case rel => exact ⟨i + 1, by simp, by omega, by rw [HS.out]; simp [hxy], below_drewN hW _⟩
          case measure => simp [intOf]; omega
        · have t1 : (x == y) = false := by simp [hxy]
          go_wp2_with fail
          go_quiet (fail)
          go_wp2_with fail
          go_ret
          have hne : ¬ l = l2 := by rw [HS.out]; exact fun h => hxy h.1
          exact ⟨by simp [hne], below_drewN hW _⟩
      · have he : l = l2 := hs.2 (by rw [hR.done (by omega), hR2.done (by omega)])
        have HE := hide he
        clear hs he
        go_wp2_with fail
        go_ret
        exact ⟨by simp [HE.out], hW⟩
  · have hne : ¬ l = l2 := fun h => hnn (by rw [← hR.len, ← hR2.len, h])
    have t1 : ((n : Int) == (n2 : Int)) = false := by simp; omega
    go_enter Try.func13, Try.ntmps13
    go_wp2_with fail
    go_ret
    exact ⟨by simp [hne], Below.refl _ _⟩

theorem take_next {l : List Int} {i : Nat} {x : Int} (hx : l[i]? = some x) : l.take (i + 1) = l.take i ++ [x] := by
  rw [List.take_add_one, hx]; rfl

set_option maxRecDepth 100000 in
set_option maxHeartbeats 1000000 in
theorem weigh_any {w : World} {ao : Option Addr} {n c : Nat} {l : List Int} (hR : RdS intE w ao n c l) (hn : n ≤ 8) : Calls Try.prog 31 #[.slice ao n c] w fun e w' => e = .returned (.tuple #[.int .i64 (weighF l).1, .int .i64 (weighF l).2]) ∧ w = w' := by
  go_enter Try.func31, Try.ntmps31
  go_wp2_with fail
  go_loopw [4, 9] (fun v4 v9 wr => ∃ (i : Nat), v4 = .int .i64 (l.take i).sum ∧ v9 = .int .i64 i ∧ i ≤ n ∧ (l.take i).all okW = true ∧ wr = w) (fun _ v9 _ => n - (intOf v9).toNat)
  case atStart => exact ⟨0, by simp, rfl, Nat.zero_le _, by simp, rfl⟩
  case round =>
    obtain ⟨i, rfl, rfl, hin, hs, rfl⟩ := hrel
    obtain ⟨s0, s1⟩ := sum_bounds hs
    have s2 : (l.take i).length ≤ 8 := by rw [List.length_take]; omega
    have HS := hide hs
    by_cases hlt : i < n
    · obtain ⟨x, hx, _, hm⟩ := hR.next hlt
      obtain ⟨b, o, rfl, c1⟩ := hR.int hx
      have e2 := take_next hx
      rcases Int.lt_or_le x 0 with t1 | t1
      · have he : weighF l = (0, 2) := by
          unfold weighF
          rw [if_neg]
          intro h
          have := (okW_iff x).1 (List.all_eq_true.1 h x hm)
          omega
        have HE := hide he
        generalize (l.take i).sum = s at *
        clear he e2 hs
        go_wp2_with fail
        go_ret2
        exact ⟨by rw [HE.out]; rfl, by first | rfl | trivial⟩
      · rcases Int.lt_or_le 1024 x with t2 | t2
        · have he : weighF l = (0, 2) := by
            unfold weighF
            rw [if_neg]
            intro h
            have := (okW_iff x).1 (List.all_eq_true.1 h x hm)
            omega
          have HE := hide he
          generalize (l.take i).sum = s at *
          clear he e2 hs
          go_wp2_with fail
          go_ret2
          exact ⟨by rw [HE.out]; rfl, by first | rfl | trivial⟩
        · have e3 : (l.take (i + 1)).sum = (l.take i).sum + x := by rw [e2]; simp
          have e4 : (l.take (i + 1)).all okW = true := by
            rw [e2, List.all_append, HS.out]
            simp [okW_iff, t1, t2]
          have H3 := hide e3
          have H4 := hide e4
          have s3 : (l.take i).sum ≤ 8192 := by omega
          clear e2 e3 e4 hs s1 s2
          generalize (l.take i).sum = s at *
          go_wp2_with fail
          go_roundw
          case rel => exact ⟨i + 1, by rw [H3.out], by simp, by omega, H4.out, by first | rfl | trivial⟩
          case measure => simp [intOf]; omega
    · have hl : l.take i = l := List.take_of_length_le (by rw [hR.len]; omega)
      rw [hl] at hs s0 s1 s2 ⊢
      by_cases hz : l.sum = 0
      · have he : weighF l = (0, 1) := by unfold weighF; rw [if_pos hs, if_pos hz]
        have HE := hide he
        rw [hz]
        clear he hs s0 s1 s2 HS hl hz
        go_wp2_with fail
        go_ret2
        exact ⟨by rw [HE.out]; rfl, by first | rfl | trivial⟩
      · have he : weighF l = (l.sum, 0) := by unfold weighF; rw [if_pos hs, if_neg hz]
        have HE := hide he
        have t1 : (l.sum == 0) = false := by simpa using hz
        clear he hs s1 s2 HS hl hz
        go_wp2_with fail
        go_ret2
        exact ⟨by rw [HE.out]; rfl, by first | rfl | trivial⟩
end Go.Proofs.Ytmdmgmddblokoaa
