/- The document's Alike, by its walk. -/
import Derived.Test.YtoeoneiopcagfaaFrameS
namespace Go.Proofs.Ytoeoneiopcagfaa
open Go.RowKit

set_option maxRecDepth 100000 in
set_option maxHeartbeats 1000000 in
theorem alike_any {w : World} {ao ao2 : Option Addr} {n c n2 c2 : Nat} {l l2 : List Int} (hR : RdS intE w ao n c l) (hR2 : RdS intE w ao2 n2 c2 l2) (hn : n ≤ 140737488351232) (hn2 : n2 ≤ 140737488351232) :
    Calls Try.prog 14 #[.slice ao n c, .slice ao2 n2 c2] w fun e w' => e = .returned (.bool (decide (l = l2))) ∧ Below w.heap.size w w' := by
  by_cases hnn : n = n2
  · subst hnn
    go_enter Try.func14, Try.ntmps14
    go_wp2_with fail
    go_loopw [5] (fun v5 wr => ∃ (i : Nat), v5 = .int .i64 i ∧ i ≤ n ∧ (l = l2 ↔ l.drop i = l2.drop i) ∧ Below w.heap.size w wr) (fun v5 _ => n - (intOf v5).toNat)
    case atStart => exact ⟨0, rfl, Nat.zero_le _, by simp, Below.refl _ _⟩
    case round =>
      obtain ⟨i, rfl, hin, hs, hW⟩ := hrel
      by_cases hlt : i < n
      · obtain ⟨x, hx, hd, _⟩ := hR.next hlt
        obtain ⟨y, hy, hd2, _⟩ := hR2.next hlt
        rw [hd, hd2, List.cons.injEq] at hs
        have HS := hide hs
        clear hs hd hd2
        have hRw := hR.below hW
        have hRw2 := hR2.below hW
        obtain ⟨b, o, rfl, c1⟩ := hRw.int hx
        obtain ⟨b2, o2, rfl, c2⟩ := hRw2.int hy
        by_cases hxy : x = y
        · have t1 : (x == y) = true := by simp [hxy]
          go_wp2_with fail
          go_quiet (fail)
          go_wp2_with fail
          go_roundw
          case rel => exact ⟨i + 1, by simp, by omega, by rw [HS.out]; simp [hxy], below_drewN hW _⟩
          case measure => simp [intOf]; omega
        · have t1 : (x == y) = false := by simp [hxy]
          go_wp2_with fail
          go_quiet (fail)
          go_wp2_with fail
          go_ret
          have hne : ¬ l = l2 := by rw [HS.out]; exact fun h => hxy h.1
          exact ⟨by simp [hne], below_drewN hW _⟩
      · have he : l = l2 := hs.2 (by rw [hR.done (by omega), hR2.done (by omega)])
        have HE := hide he
        clear hs he
        go_wp2_with fail
        go_ret
        exact ⟨by simp [HE.out], hW⟩
  · have hne : ¬ l = l2 := fun h => hnn (by rw [← hR.len, ← hR2.len, h])
    have t1 : ((n : Int) == (n2 : Int)) = false := by simp; omega
    go_enter Try.func14, Try.ntmps14
    go_wp2_with fail
    go_ret
    exact ⟨by simp [hne], Below.refl _ _⟩

end Go.Proofs.Ytoeoneiopcagfaa
