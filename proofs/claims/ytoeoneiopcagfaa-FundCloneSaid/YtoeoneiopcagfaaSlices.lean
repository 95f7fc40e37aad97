/- Of Go's package slices: Index, Contains, Clone, Equal on numbers, each by its walk. -/
import Derived.Test.YtoeoneiopcagfaaFrameS
namespace Go.Proofs.Ytoeoneiopcagfaa
open Go.RowKit

/-- Where a number is first, or less than 0. -/
def IxR (z : Int) (l : List Int) (w : World) (e : Ending) (w' : World) : Prop := ∃ k : Int, e = .returned (.int .i64 k) ∧ (0 ≤ k ↔ z ∈ l) ∧ w = w'

set_option maxRecDepth 100000 in
set_option maxHeartbeats 1000000 in
theorem index_any {w : World} {ao : Option Addr} {n c : Nat} {l : List Int} {z : Int} (hR : RdS intE w ao n c l) (hn : n ≤ 140737488351232) : Calls Try.prog 40 #[.slice ao n c, .int .i64 z] w (IxR z l w) := by
  go_enter Try.func40, Try.ntmps40
  go_wp2_with fail
  go_loopw [8] (fun v8 wr => ∃ (i : Nat), v8 = .int .i64 i ∧ i ≤ n ∧ (z ∈ l ↔ z ∈ l.drop i) ∧ w = wr) (fun v8 _ => n - (intOf v8).toNat)
  case atStart => exact ⟨0, rfl, Nat.zero_le _, by simp, by first | rfl | trivial⟩
  case round =>
    obtain ⟨i, rfl, hin, hs, rfl⟩ := hrel
    by_cases hlt : i < n
    · obtain ⟨x, hx, hd, hm⟩ := hR.next hlt
      rw [hd, List.mem_cons] at hs
      have HS := hide hs
      have HM := hide hm
      clear hs hd hm
      obtain ⟨b, o, rfl, c1⟩ := hR.int hx
      clear hx
      by_cases hxy : z = x
      · have t1 : (z == x) = true := by simp [hxy]
        have HX := hide hxy
        clear hxy
        go_wp2_with fail
        go_ret
        exact ⟨i, rfl, ⟨fun _ => by rw [HX.out]; exact HM.out, fun _ => by omega⟩, rfl⟩
      · have t1 : (z == x) = false := by simp [hxy]
        have HX := hide hxy
        clear hxy
        go_wp2_with fail
        go_roundw
        case rel => exact ⟨i + 1, by simp, by omega, by rw [HS.out]; simp [HX.out], by first | rfl | trivial⟩
        case measure => simp [intOf]; omega
    · rw [hR.done (by omega)] at hs
      have HS := hide hs
      clear hs
      go_wp2_with fail
      go_ret
      exact ⟨-1, rfl, ⟨fun h => by omega, fun h => by have := HS.out.1 h; cases this⟩, rfl⟩

set_option maxRecDepth 100000 in
set_option maxHeartbeats 1000000 in
theorem contains_any {w : World} {ao : Option Addr} {n c : Nat} {l : List Int} {z : Int} (hR : RdS intE w ao n c l) (hn : n ≤ 140737488351232) :
    Calls Try.prog 28 #[.slice ao n c, .int .i64 z] w fun e w' => e = .returned (.bool (decide (z ∈ l))) ∧ w = w' := by
  go_enter Try.func28, Try.ntmps28
  go_wp2_with fail
  refine (index_any hR hn).mono ?_
  rintro e w1 ⟨k, rfl, hk, rfl⟩
  have HK := hide hk
  clear hk
  go_wp2_with fail
  go_ret
  exact ⟨by rw [show decide (z ∈ l) = decide (0 ≤ k) from by rw [Bool.eq_iff_iff]; simp [HK.out]]; rfl, rfl⟩

@[go_sem] theorem eqnilI (w : World) (a : Option Addr) (n c : Nat) : (binOp .eql 22 (.slice a n c) (.slice none 0 0)).run Try.prog w = .ok (.bool a.isNone) w :=
  Lib.run_eql_slice_nil w 22 3 a n c 0 0 Try.underlying22

set_option maxRecDepth 100000 in
set_option maxHeartbeats 1000000 in
theorem cloneI_any {ao : Option Addr} {n c : Nat} {xs : List Int} {w : World} (hR : RdS intE w ao n c xs) (hl : n ≤ 1099511627776) :
    Calls Try.prog 29 #[.slice ao n c] w fun e w' => ∃ ao' c', e = .returned (.slice ao' n c') ∧ OwnS intE w' w.heap.size ao' n c' xs ∧ Below w.heap.size w w' := by
  cases ao with
  | none =>
    obtain ⟨rfl, rfl⟩ := hR.nil rfl
    have : xs = [] := List.eq_nil_of_length_eq_zero hR.len
    subst this
    go_enter Try.func29, Try.ntmps29
    go_wp2
    go_ret
    exact ⟨none, 0, rfl, OwnS.nilRow _ _, Below.refl _ _⟩
  | some ad =>
    go_enter Try.func29, Try.ntmps29
    go_wp2_with (at_builtin; refine wpList_app intE_ok sTI rfl (.tmp 5) (.tmp 6) rfl rfl (OwnS.emptyRow w (Nat.le_refl _)) rfl (hR.below ((Below.refl _ _).alloc (Nat.le_refl _) _)) ?_ ?_ ?_ ?_)
    · omega
    · unfold maxLen; omega
    · simp
    · intro ao' cap' w' ho hg _
      go_wp2
      go_ret
      exact ⟨ao', cap', rfl, by simpa using ho, ((Below.refl _ _).alloc (Nat.le_refl _) _).grown hg (by simp) (fun k hk => by simp [Value.ownBlock] at hk; omega)⟩

set_option maxRecDepth 100000 in
set_option maxHeartbeats 1000000 in
theorem equalI_any {w : World} {ao ao2 : Option Addr} {n c n2 c2 : Nat} {l l2 : List Int} (hR : RdS intE w ao n c l) (hR2 : RdS intE w ao2 n2 c2 l2) (hn : n ≤ 140737488351232) (hn2 : n2 ≤ 140737488351232) :
    Calls Try.prog 31 #[.slice ao n c, .slice ao2 n2 c2] w fun e w' => e = .returned (.bool (decide (l = l2))) ∧ Below w.heap.size w w' := by
  by_cases hnn : n = n2
  · subst hnn
    go_enter Try.func31, Try.ntmps31
    go_wp2_with fail
    go_loopw [13] (fun v13 wr => ∃ (i : Nat), v13 = .int .i64 i ∧ i ≤ n ∧ (l = l2 ↔ l.drop i = l2.drop i) ∧ Below w.heap.size w wr) (fun v13 _ => n - (intOf v13).toNat)
    case atStart => exact ⟨0, rfl, Nat.zero_le _, by simp, Below.refl _ _⟩
    case round =>
      obtain ⟨i, rfl, hin, hs, hW⟩ := hrel
      by_cases hlt : i < n
      · obtain ⟨x, hx, hd, _⟩ := hR.next hlt
        obtain ⟨y, hy, hd2, _⟩ := hR2.next hlt
        rw [hd, hd2, List.cons.injEq] at hs
        have HS := hide hs
        clear hs hd hd2
        have hRw := hR.below hW
        have hRw2 := hR2.below hW
        obtain ⟨b, o, rfl, c1⟩ := hRw.int hx
        obtain ⟨b2, o2, rfl, c2⟩ := hRw2.int hy
        by_cases hxy : x = y
        · have t1 : (x == y) = true := by simp [hxy]
          go_wp2_with fail
          go_quiet (fail)
          go_wp2_with fail
          go_roundw
          case rel => exact ⟨i + 1, by simp, by omega, by rw [HS.out]; simp [hxy], below_drewN hW _⟩
          case measure => simp [intOf]; omega
        · have t1 : (x == y) = false := by simp [hxy]
          go_wp2_with fail
          go_quiet (fail)
          go_wp2_with fail
          go_ret
          have hne : ¬ l = l2 := by rw [HS.out]; exact fun h => hxy h.1
          exact ⟨by simp [hne], below_drewN hW _⟩
      · have he : l = l2 := hs.2 (by rw [hR.done (by omega), hR2.done (by omega)])
        have HE := hide he
        clear hs he
        go_wp2_with fail
        go_ret
        exact ⟨by simp [HE.out], hW⟩
  · have hne : ¬ l = l2 := fun h => hnn (by rw [← hR.len, ← hR2.len, h])
    have t1 : ((n : Int) == (n2 : Int)) = false := by simp; omega
    go_enter Try.func31, Try.ntmps31
    go_wp2_with fail
    go_ret
    exact ⟨by simp [hne], Below.refl _ _⟩
end Go.Proofs.Ytoeoneiopcagfaa
