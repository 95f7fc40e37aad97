/- CoinBack: what is added can be taken away again, and the other way round. -/
import Derived.Test.YtmdmgmddblokoaaPotC
import Derived.Test.YtmdmgmddblokoaaCoinF
namespace Go.Proofs.Ytmdmgmddblokoaa
open Go.RowKit

set_option maxRecDepth 100000 in
set_option maxHeartbeats 4000000 in
theorem back_any {a b : Int} {w : World} :
    Calls Try.prog 7 #[.int .i64 a, .int .i64 b] w fun e w' => e = .returned (.bool true) ∧ Below w.heap.size w w' := by
  have hc : ((addF a b).2 = 0 ∧ subF (addF a b).1 b = (a, 0)) ∨ ((addF a b).2 == 0) = false := by
    by_cases h : (addF a b).2 = 0
    · exact .inl ⟨h, add_sub h⟩
    · exact .inr (by simpa using h)
  have hc2 : ((subF a b).2 = 0 ∧ addF (subF a b).1 b = (a, 0)) ∨ ((subF a b).2 == 0) = false := by
    by_cases h : (subF a b).2 = 0
    · exact .inl ⟨h, sub_add h⟩
    · exact .inr (by simpa using h)
  have HC1 := hide hc
  have HC2 := hide hc2
  clear hc hc2
  rcases HC1.out with ⟨t1, t2⟩ | t1
  · have HT := hide t2
    clear t2
    rcases HC2.out with ⟨u1, u2⟩ | u1
    · have HU := hide u2
      clear u2
      go_enter Try.func7, Try.ntmps7
      go_wp2_with fail
      refine (addC_any a b w).mono ?_
      rintro e w1 ⟨rfl, rfl⟩
      go_wp2_with fail
      refine (subC_any (addF a b).1 b w).mono ?_
      rintro e w1 ⟨rfl, rfl⟩
      rw [HT.out]
      go_wp2_with fail
      refine (subC_any a b w).mono ?_
      rintro e w1 ⟨rfl, rfl⟩
      go_wp2_with fail
      refine (addC_any (subF a b).1 b w).mono ?_
      rintro e w1 ⟨rfl, rfl⟩
      rw [HU.out]
      go_wp2_with fail
      refine (told_any _).mono ?_
      rintro e w4 ⟨rfl, hb4⟩
      go_wp2_with fail
      go_ret
      exact ⟨rfl, hb4⟩
    · go_enter Try.func7, Try.ntmps7
      go_wp2_with fail
      refine (addC_any a b w).mono ?_
      rintro e w1 ⟨rfl, rfl⟩
      go_wp2_with fail
      refine (subC_any (addF a b).1 b w).mono ?_
      rintro e w1 ⟨rfl, rfl⟩
      rw [HT.out]
      go_wp2_with fail
      refine (subC_any a b w).mono ?_
      rintro e w1 ⟨rfl, rfl⟩
      go_wp2_with fail
      refine (told_any _).mono ?_
      rintro e w4 ⟨rfl, hb4⟩
      go_wp2_with fail
      go_ret
      exact ⟨rfl, hb4⟩
  · rcases HC2.out with ⟨u1, u2⟩ | u1
    · have HU := hide u2
      clear u2
      go_enter Try.func7, Try.ntmps7
      go_wp2_with fail
      refine (addC_any a b w).mono ?_
      rintro e w1 ⟨rfl, rfl⟩
      go_wp2_with fail
      refine (subC_any a b w).mono ?_
      rintro e w1 ⟨rfl, rfl⟩
      go_wp2_with fail
      refine (addC_any (subF a b).1 b w).mono ?_
      rintro e w1 ⟨rfl, rfl⟩
      rw [HU.out]
      go_wp2_with fail
      refine (told_any _).mono ?_
      rintro e w4 ⟨rfl, hb4⟩
      go_wp2_with fail
      go_ret
      exact ⟨rfl, hb4⟩
    · go_enter Try.func7, Try.ntmps7
      go_wp2_with fail
      refine (addC_any a b w).mono ?_
      rintro e w1 ⟨rfl, rfl⟩
      go_wp2_with fail
      refine (subC_any a b w).mono ?_
      rintro e w1 ⟨rfl, rfl⟩
      go_wp2_with fail
      refine (told_any _).mono ?_
      rintro e w4 ⟨rfl, hb4⟩
      go_wp2_with fail
      go_ret
      exact ⟨rfl, hb4⟩

theorem back_walk : LawWalk 7 Try.f7.params.toList := by
  intro W args h
  obtain ⟨v0, v1, rfl, h0, h1⟩ := argsOk2 h
  obtain ⟨a, rfl, _, _⟩ := one_i64 Try.underlying3 h0
  obtain ⟨b, rfl, _, _⟩ := one_i64 Try.underlying3 h1
  exact back_any

set_option maxRecDepth 100000 in
theorem coinBack_lifted (os : Os) (started : os.Started) (H : Type) (enc : TypeId × Value → H) :
    ReturnsInHanded {} Try.checked os 7 .any (Rows.coinBackSpec.pre6 enc Try.prog Try.f7 Rows.coinBackRow.domain false) (Rows.coinBackSpec.post enc Try.prog Try.f7 false true false false) :=
  law_lifted Try.func7 rfl rfl (by decide +kernel) (fun H ds h => by match ds, h with | [_, _], _ => rfl) (by kernel_rfl) os started H enc
    (ChangeSpec.witness6 (enc := enc) (C := Try.checked) false ⟨#[], #[.int .i64 0, .int .i64 0], []⟩ 8 (by kernel_rfl) (by kernel_rfl) (by kernel_rfl) (by kernel_rfl)) back_walk

theorem coinBack_proved : Rows.CoinBackSaid :=
  OpenClaim.holds_of_wide 7 Try.f7 rfl rfl rfl rfl rfl rfl rfl ⟨rfl, rfl, rfl, rfl, rfl⟩ rfl rfl rfl rfl rfl (by kernel_rfl) Try.func7 (by kernel_rfl)
    (of_decide_eq_true (by kernel_rfl)) (by unfold Func.isWrapper; first | (rw [if_pos (by decide +kernel)]; kernel_rfl) | (rw [if_neg (by decide +kernel)]; exact ⟨rfl, rfl⟩))
    (fun os started H enc _ => coinBack_lifted os started H enc)
#print axioms coinBack_proved
end Go.Proofs.Ytmdmgmddblokoaa
