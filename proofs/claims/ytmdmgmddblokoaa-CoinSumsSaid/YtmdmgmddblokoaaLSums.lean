/- CoinSums: whether any number is an amount; any two together, one less another one, all of a list. -/
import Derived.Test.YtmdmgmddblokoaaPotC
import Derived.Test.YtmdmgmddblokoaaCoinF
namespace Go.Proofs.Ytmdmgmddblokoaa
open Go.RowKit

set_option maxRecDepth 100000 in
set_option maxHeartbeats 4000000 in
theorem sums_any {a b : Int} {ao : Option Addr} {n c : Nat} {l : List Int} {w : World} (hR : RdS intE w ao n c l) (hn : n ≤ 140737488351232) :
    Calls Try.prog 9 #[.int .i64 a, .int .i64 b, .slice ao n c] w fun e w' => e = .returned (.bool true) ∧ Below w.heap.size w w' := by
  go_enter Try.func9, Try.ntmps9
  by_cases h100 : n ≤ 100
  · have t1 : (n : Int) ≤ 100 := by omega
    go_wp2_with fail
    refine (addC_any a b w).mono ?_
    rintro e w1 ⟨rfl, rfl⟩
    go_wp2_with fail
    refine (subC_any a b w).mono ?_
    rintro e w1 ⟨rfl, rfl⟩
    go_wp2_with fail
    refine (sumC_any hR hn).mono ?_
    rintro e w1 ⟨rfl, rfl⟩
    go_wp2_with fail
    refine (addR_any a b w).mono ?_
    rintro e w1 ⟨rfl, rfl⟩
    go_wp2_with fail
    refine (subR_any a b w).mono ?_
    rintro e w1 ⟨rfl, rfl⟩
    go_wp2_with fail
    refine (sumR_any hR hn).mono ?_
    rintro e w1 ⟨rfl, rfl⟩
    go_wp2_with fail
    refine (rightC_any a w).mono ?_
    rintro e w1 ⟨rfl, rfl⟩
    go_wp2_with fail
    refine (rightR_any a w).mono ?_
    rintro e w1 ⟨rfl, rfl⟩
    go_wp2_with fail
    refine (told_any _).mono ?_
    rintro e w4 ⟨rfl, hb4⟩
    go_wp2_with fail
    go_ret
    exact ⟨rfl, hb4⟩
  · have t1 : (100 : Int) < n := by omega
    go_wp2_with fail
    refine (told_any _).mono ?_
    rintro e w4 ⟨rfl, hb4⟩
    go_wp2_with fail
    go_ret
    exact ⟨rfl, hb4⟩

theorem sums_walk : LawWalk 9 Try.f9.params.toList := by
  intro W args h
  obtain ⟨v0, v1, v2, rfl, h0, h1, h2⟩ := argsOk3 h
  obtain ⟨a, rfl, _, _⟩ := one_i64 Try.underlying3 h0
  obtain ⟨b, rfl, _, _⟩ := one_i64 Try.underlying3 h1
  obtain ⟨ao, n, c, l, rfl, hR, _, hn⟩ := one_ints h2
  exact sums_any hR hn

set_option maxRecDepth 100000 in
theorem coinSums_lifted (os : Os) (started : os.Started) (H : Type) (enc : TypeId × Value → H) :
    ReturnsInHanded {} Try.checked os 9 .any (Rows.coinSumsSpec.pre6 enc Try.prog Try.f9 Rows.coinSumsRow.domain false) (Rows.coinSumsSpec.post enc Try.prog Try.f9 false true false false) :=
  law_lifted Try.func9 rfl rfl (by decide +kernel) (fun H ds h => by match ds, h with | [_, _, _], _ => rfl) (by kernel_rfl) os started H enc
    (ChangeSpec.witness6 (enc := enc) (C := Try.checked) false ⟨#[], #[.int .i64 0, .int .i64 0, .slice none 0 0], []⟩ 8 (by kernel_rfl) (by kernel_rfl) (by kernel_rfl) (by kernel_rfl)) sums_walk

theorem coinSums_proved : Rows.CoinSumsSaid :=
  OpenClaim.holds_of_wide 9 Try.f9 rfl rfl rfl rfl rfl rfl rfl ⟨rfl, rfl, rfl, rfl, rfl⟩ rfl rfl rfl rfl rfl (by kernel_rfl) Try.func9 (by kernel_rfl)
    (of_decide_eq_true (by kernel_rfl)) (by unfold Func.isWrapper; first | (rw [if_pos (by decide +kernel)]; kernel_rfl) | (rw [if_neg (by decide +kernel)]; exact ⟨rfl, rfl⟩))
    (fun os started H enc _ => coinSums_lifted os started H enc)
#print axioms coinSums_proved
end Go.Proofs.Ytmdmgmddblokoaa
