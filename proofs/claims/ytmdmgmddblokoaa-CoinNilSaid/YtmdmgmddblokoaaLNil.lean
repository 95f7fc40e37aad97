/- CoinNil: a nil pot has nothing. -/
import Derived.Test.YtmdmgmddblokoaaPotC
import Derived.Test.YtmdmgmddblokoaaCoinF
namespace Go.Proofs.Ytmdmgmddblokoaa
open Go.RowKit

set_option maxRecDepth 100000 in
theorem nil_pay (w : World) (seat ask : Int) : Calls Try.prog 17 #[.pointer none, .int .i64 seat, .int .i64 ask] w fun e w' => e = .returned (.int .i64 0) ∧ w = w' := by
  go_enter Try.func17, Try.ntmps17
  go_wp2_with fail
  go_ret
  exact ⟨rfl, rfl⟩

set_option maxRecDepth 100000 in
theorem nil_left (w : World) : Calls Try.prog 18 #[.pointer none] w fun e w' => e = .returned (.int .i64 0) ∧ w = w' := by
  go_enter Try.func18, Try.ntmps18
  go_wp2_with fail
  go_ret
  exact ⟨rfl, rfl⟩

set_option maxRecDepth 100000 in
theorem nil_pays (w : World) : Calls Try.prog 19 #[.pointer none] w fun e w' => e = .returned (.slice none 0 0) ∧ w = w' := by
  go_enter Try.func19, Try.ntmps19
  go_wp2_with fail
  go_ret
  exact ⟨rfl, rfl⟩

set_option maxRecDepth 100000 in
theorem nil_rest (w : World) (seat : Int) : Calls Try.prog 22 #[.pointer none, .int .i64 seat] w fun e w' => e = .returned (.slice none 0 0) ∧ w = w' := by
  go_enter Try.func22, Try.ntmps22
  go_wp2_with fail
  refine (nil_left w).mono ?_
  rintro e w1 ⟨rfl, rfl⟩
  go_wp2_with fail
  refine (nil_pay w seat 0).mono ?_
  rintro e w1 ⟨rfl, rfl⟩
  go_wp2_with fail
  refine (nil_pays w).mono ?_
  rintro e w1 ⟨rfl, rfl⟩
  go_wp2_with fail
  go_ret
  exact ⟨rfl, rfl⟩

set_option maxRecDepth 100000 in
theorem nil_clone (w : World) : Calls Try.prog 20 #[.pointer none] w fun e w' => e = .returned (.pointer none) ∧ w = w' := by
  go_enter Try.func20, Try.ntmps20
  go_wp2_with fail
  go_ret
  exact ⟨rfl, rfl⟩

set_option maxRecDepth 100000 in
theorem nil_same0 (w : World) : Calls Try.prog 21 #[.pointer none, .pointer none] w fun e w' => e = .returned (.bool true) ∧ w = w' := by
  go_enter Try.func21, Try.ntmps21
  go_wp2_with fail
  go_ret
  exact ⟨rfl, rfl⟩

set_option maxRecDepth 100000 in
theorem nil_same1 (w : World) (a : Addr) : Calls Try.prog 21 #[.pointer none, .pointer (some a)] w fun e w' => e = .returned (.bool false) ∧ w = w' := by
  go_enter Try.func21, Try.ntmps21
  go_wp2_with fail
  go_ret
  exact ⟨rfl, rfl⟩

set_option maxRecDepth 100000 in
theorem nil_same2 (w : World) (a : Addr) : Calls Try.prog 21 #[.pointer (some a), .pointer none] w fun e w' => e = .returned (.bool false) ∧ w = w' := by
  go_enter Try.func21, Try.ntmps21
  go_wp2_with fail
  go_ret
  exact ⟨rfl, rfl⟩

set_option maxRecDepth 100000 in
set_option maxHeartbeats 4000000 in
theorem nil_any {a b : Int} {w : World} :
    Calls Try.prog 6 #[.int .i64 a, .int .i64 b] w fun e w' => e = .returned (.bool true) ∧ Below w.heap.size w w' := by
  go_enter Try.func6, Try.ntmps6
  go_wp2_with fail
  refine (newpot_ok (amount := 5) (n := 1) (by decide)).mono ?_
  rintro e w5 ⟨g, rfl, h, hk, hb5⟩
  go_wp2_with fail
  refine (nil_pay _ a b).mono ?_
  rintro e w1 ⟨rfl, rfl⟩
  go_wp2_with fail
  refine (nil_rest _ a).mono ?_
  rintro e w1 ⟨rfl, rfl⟩
  go_wp2_with fail
  refine (nil_left _).mono ?_
  rintro e w1 ⟨rfl, rfl⟩
  go_wp2_with fail
  refine (nil_pays _).mono ?_
  rintro e w1 ⟨rfl, rfl⟩
  go_wp2_with fail
  refine (nil_clone _).mono ?_
  rintro e w1 ⟨rfl, rfl⟩
  go_wp2_with fail
  refine (nil_same0 _).mono ?_
  rintro e w1 ⟨rfl, rfl⟩
  go_wp2_with fail
  refine (nil_same1 _ _).mono ?_
  rintro e w1 ⟨rfl, rfl⟩
  go_wp2_with fail
  refine (nil_same2 _ _).mono ?_
  rintro e w1 ⟨rfl, rfl⟩
  go_wp2_with fail
  refine (told_any _).mono ?_
  rintro e w4 ⟨rfl, hb4⟩
  go_wp2_with fail
  go_ret
  exact ⟨rfl, below_trans hb5 hb4⟩

theorem nil_walk : LawWalk 6 Try.f6.params.toList := by
  intro W args h
  obtain ⟨v0, v1, rfl, h0, h1⟩ := argsOk2 h
  obtain ⟨a, rfl, _, _⟩ := one_i64 Try.underlying3 h0
  obtain ⟨b, rfl, _, _⟩ := one_i64 Try.underlying3 h1
  exact nil_any

set_option maxRecDepth 100000 in
theorem coinNil_lifted (os : Os) (started : os.Started) (H : Type) (enc : TypeId × Value → H) :
    ReturnsInHanded {} Try.checked os 6 .any (Rows.coinNilSpec.pre6 enc Try.prog Try.f6 Rows.coinNilRow.domain false) (Rows.coinNilSpec.post enc Try.prog Try.f6 false true false false) :=
  law_lifted Try.func6 rfl rfl (by decide +kernel) (fun H ds h => by match ds, h with | [_, _], _ => rfl) (by kernel_rfl) os started H enc
    (ChangeSpec.witness6 (enc := enc) (C := Try.checked) false ⟨#[], #[.int .i64 0, .int .i64 0], []⟩ 8 (by kernel_rfl) (by kernel_rfl) (by kernel_rfl) (by kernel_rfl)) nil_walk

theorem coinNil_proved : Rows.CoinNilSaid :=
  OpenClaim.holds_of_wide 6 Try.f6 rfl rfl rfl rfl rfl rfl rfl ⟨rfl, rfl, rfl, rfl, rfl⟩ rfl rfl rfl rfl rfl (by kernel_rfl) Try.func6 (by kernel_rfl)
    (of_decide_eq_true (by kernel_rfl)) (by unfold Func.isWrapper; first | (rw [if_pos (by decide +kernel)]; kernel_rfl) | (rw [if_neg (by decide +kernel)]; exact ⟨rfl, rfl⟩))
    (fun os started H enc _ => coinNil_lifted os started H enc)
#print axioms coinNil_proved
end Go.Proofs.Ytmdmgmddblokoaa
