/- CoinSplits: the parts of any amount by any weights. -/
import Derived.Test.YtmdmgmddblokoaaPotC
import Derived.Test.YtmdmgmddblokoaaCoinF
namespace Go.Proofs.Ytmdmgmddblokoaa
open Go.RowKit

set_option maxRecDepth 100000 in
set_option maxHeartbeats 4000000 in
theorem splits_any {total : Int} {ao : Option Addr} {n c : Nat} {l : List Int} {w : World} (hR : RdS intE w ao n c l) (hn : n ≤ 140737488351232) :
    Calls Try.prog 3 #[.int .i64 total, .slice ao n c] w fun e w' => e = .returned (.bool true) ∧ Below w.heap.size w w' := by
  go_enter Try.func3, Try.ntmps3
  by_cases h12 : n ≤ 12
  · have t1 : (n : Int) ≤ 12 := by omega
    go_wp2_with fail
    refine (splitC_any hR hn).mono ?_
    rintro e w1 ⟨ao1, n1, c1, rfl, ho1, hb1⟩
    go_wp2_with fail
    refine (splitR_any (hR.below hb1) hn).mono ?_
    rintro e w2 ⟨ao2, n2, c2, rfl, ho2, hb2⟩
    have z1 : n1 ≤ 8 := by rw [← ho1.len]; exact split_len total l
    have z2 : n2 ≤ 8 := by rw [← ho2.len]; exact split_len total l
    go_wp2_with fail
    refine (alike_any (ho1.below hb2).rd ho2.rd (by omega) (by omega)).mono ?_
    rintro e w3 ⟨rfl, hb3⟩
    rw [show decide ((splitF total l).1 = (splitF total l).1) = true from by simp]
    go_wp2_with fail
    refine (told_any _).mono ?_
    rintro e w4 ⟨rfl, hb4⟩
    go_wp2_with fail
    go_ret
    exact ⟨rfl, below_trans (below_trans (below_trans hb1 hb2) hb3) hb4⟩
  · have t1 : (12 : Int) < n := by omega
    go_wp2_with fail
    refine (told_any _).mono ?_
    rintro e w4 ⟨rfl, hb4⟩
    go_wp2_with fail
    go_ret
    exact ⟨rfl, hb4⟩

theorem splits_walk : LawWalk 3 Try.f3.params.toList := by
  intro W args h
  obtain ⟨v0, v1, rfl, h0, h1⟩ := argsOk2 h
  obtain ⟨total, rfl, _, _⟩ := one_i64 Try.underlying3 h0
  obtain ⟨ao, n, c, l, rfl, hR, _, hn⟩ := one_ints h1
  exact splits_any hR hn

set_option maxRecDepth 100000 in
theorem coinSplits_lifted (os : Os) (started : os.Started) (H : Type) (enc : TypeId × Value → H) :
    ReturnsInHanded {} Try.checked os 3 .any (Rows.coinSplitsSpec.pre6 enc Try.prog Try.f3 Rows.coinSplitsRow.domain false) (Rows.coinSplitsSpec.post enc Try.prog Try.f3 false true false false) :=
  law_lifted Try.func3 rfl rfl (by decide +kernel) (fun H ds h => by match ds, h with | [_, _], _ => rfl) (by kernel_rfl) os started H enc
    (ChangeSpec.witness6 (enc := enc) (C := Try.checked) false ⟨#[], #[.int .i64 0, .slice none 0 0], []⟩ 8 (by kernel_rfl) (by kernel_rfl) (by kernel_rfl) (by kernel_rfl)) splits_walk

theorem coinSplits_proved : Rows.CoinSplitsSaid :=
  OpenClaim.holds_of_wide 3 Try.f3 rfl rfl rfl rfl rfl rfl rfl ⟨rfl, rfl, rfl, rfl, rfl⟩ rfl rfl rfl rfl rfl (by kernel_rfl) Try.func3 (by kernel_rfl)
    (of_decide_eq_true (by kernel_rfl)) (by unfold Func.isWrapper; first | (rw [if_pos (by decide +kernel)]; kernel_rfl) | (rw [if_neg (by decide +kernel)]; exact ⟨rfl, rfl⟩))
    (fun os started H enc _ => coinSplits_lifted os started H enc)
#print axioms coinSplits_proved
end Go.Proofs.Ytmdmgmddblokoaa
