/- FundNil: a nil fund has nothing. -/
import Derived.Test.YtoeoneiopcagfaaFundG
import Derived.Test.YtoeoneiopcagfaaFundF
namespace Go.Proofs.Ytoeoneiopcagfaa
open Go.RowKit

set_option maxRecDepth 100000 in
theorem nil_back (w : World) (a b : Int) : Calls Try.prog 19 #[.pointer none, .int .i64 a, .int .i64 b] w fun e w' => e = .returned (.tuple #[.int .i64 0, .int .i64 1]) ∧ w = w' := by
  go_enter Try.func19, Try.ntmps19
  go_wp2_with fail
  go_ret2
  exact ⟨rfl, rfl⟩
set_option maxRecDepth 100000 in
theorem nil_lay (w : World) (a b c : Int) : Calls Try.prog 15 #[.pointer none, .int .i64 a, .int .i64 b, .int .i64 c] w fun e w' => e = .returned (.int .i64 1) ∧ w = w' := by
  go_enter Try.func15, Try.ntmps15
  go_wp2_with fail
  go_ret
  exact ⟨rfl, rfl⟩
set_option maxRecDepth 100000 in
theorem nil_phase (w : World) (a : Int) : Calls Try.prog 17 #[.pointer none, .int .i64 a] w fun e w' => e = .returned (.int .i64 2) ∧ w = w' := by
  go_enter Try.func17, Try.ntmps17
  go_wp2_with fail
  go_ret
  exact ⟨rfl, rfl⟩
set_option maxRecDepth 100000 in
theorem nil_given (w : World) (a : Int) : Calls Try.prog 23 #[.pointer none, .int .i64 a] w fun e w' => e = .returned (.int .i64 0) ∧ w = w' := by
  go_enter Try.func23, Try.ntmps23
  go_wp2_with fail
  go_ret
  exact ⟨rfl, rfl⟩
set_option maxRecDepth 100000 in
theorem nil_stakes (w : World) : Calls Try.prog 13 #[.pointer none] w fun e w' => e = .returned (.slice none 0 0) ∧ w = w' := by
  go_enter Try.func13, Try.ntmps13
  go_wp2_with fail
  go_ret
  exact ⟨rfl, rfl⟩
set_option maxRecDepth 100000 in
theorem nil_held (w : World) : Calls Try.prog 24 #[.pointer none] w fun e w' => e = .returned (.int .i64 0) ∧ w = w' := by
  go_enter Try.func24, Try.ntmps24
  go_wp2_with fail
  refine (nil_stakes w).mono ?_
  rintro e w1 ⟨rfl, rfl⟩
  go_wp2_with fail
  go_loopw [3, 8] (fun v3 v8 wr => v3 = .int .i64 0 ∧ v8 = .int .i64 0 ∧ w = wr) (fun _ _ _ => 0)
  case atStart => exact ⟨rfl, rfl, by first | rfl | trivial⟩
  case round =>
    obtain ⟨rfl, rfl, rfl⟩ := hrel
    go_wp2_with fail
    go_ret
    exact ⟨rfl, by first | rfl | trivial⟩
set_option maxRecDepth 100000 in
theorem nil_clone (w : World) : Calls Try.prog 26 #[.pointer none] w fun e w' => e = .returned (.pointer none) ∧ w = w' := by
  go_enter Try.func26, Try.ntmps26
  go_wp2_with fail
  go_ret
  exact ⟨rfl, rfl⟩
set_option maxRecDepth 100000 in
theorem nil_same0 (w : World) : Calls Try.prog 16 #[.pointer none, .pointer none] w fun e w' => e = .returned (.bool true) ∧ w = w' := by
  go_enter Try.func16, Try.ntmps16
  go_wp2_with fail
  go_ret
  exact ⟨rfl, rfl⟩
set_option maxRecDepth 100000 in
theorem nil_same1 (w : World) (a : Addr) : Calls Try.prog 16 #[.pointer none, .pointer (some a)] w fun e w' => e = .returned (.bool false) ∧ w = w' := by
  go_enter Try.func16, Try.ntmps16
  go_wp2_with fail
  go_ret
  exact ⟨rfl, rfl⟩
set_option maxRecDepth 100000 in
theorem nil_same2 (w : World) (a : Addr) : Calls Try.prog 16 #[.pointer (some a), .pointer none] w fun e w' => e = .returned (.bool false) ∧ w = w' := by
  go_enter Try.func16, Try.ntmps16
  go_wp2_with fail
  go_ret
  exact ⟨rfl, rfl⟩

set_option maxRecDepth 100000 in
set_option maxHeartbeats 4000000 in
theorem fnil_any {a b c : Int} {w : World} :
    Calls Try.prog 10 #[.int .i64 a, .int .i64 b, .int .i64 c] w fun e w' => e = .returned (.bool true) ∧ Below w.heap.size w w' := by
  go_enter Try.func10, Try.ntmps10
  go_wp2_with fail
  refine (fundnew_ok (due := 0) (rd_made w [1, 1] (0, 0)) (by simp) (by decide)).mono ?_
  rintro e w5 ⟨g, rfl, h, hk, hb5⟩
  have hb5 := below_trans (below_alloc w _) hb5
  go_wp2_with fail
  refine (nil_back _ a c).mono ?_
  rintro e w1 ⟨rfl, rfl⟩
  go_wp2_with fail
  refine (nil_lay _ a b c).mono ?_
  rintro e w1 ⟨rfl, rfl⟩
  go_wp2_with fail
  refine (nil_phase _ c).mono ?_
  rintro e w1 ⟨rfl, rfl⟩
  go_wp2_with fail
  refine (nil_given _ a).mono ?_
  rintro e w1 ⟨rfl, rfl⟩
  go_wp2_with fail
  refine (nil_held _).mono ?_
  rintro e w1 ⟨rfl, rfl⟩
  go_wp2_with fail
  refine (nil_stakes _).mono ?_
  rintro e w1 ⟨rfl, rfl⟩
  go_wp2_with fail
  refine (nil_clone _).mono ?_
  rintro e w1 ⟨rfl, rfl⟩
  go_wp2_with fail
  refine (nil_same0 _).mono ?_
  rintro e w1 ⟨rfl, rfl⟩
  go_wp2_with fail
  refine (nil_same1 _ _).mono ?_
  rintro e w1 ⟨rfl, rfl⟩
  go_wp2_with fail
  refine (nil_same2 _ _).mono ?_
  rintro e w1 ⟨rfl, rfl⟩
  go_wp2_with fail
  refine (told_any _).mono ?_
  rintro e w4 ⟨rfl, hb4⟩
  go_wp2_with fail
  go_ret
  exact ⟨rfl, below_trans hb5 hb4⟩

theorem fnil_walk : LawWalk 10 Try.f10.params.toList := by
  intro W args h
  obtain ⟨v0, v1, v2, rfl, h0, h1, h2⟩ := argsOk3 h
  obtain ⟨a, rfl, _, _⟩ := one_i64 Try.underlying3 h0
  obtain ⟨b, rfl, _, _⟩ := one_i64 Try.underlying3 h1
  obtain ⟨c, rfl, _, _⟩ := one_i64 Try.underlying3 h2
  exact fnil_any

set_option maxRecDepth 100000 in
theorem fundNil_lifted (os : Os) (started : os.Started) (H : Type) (enc : TypeId × Value → H) :
    ReturnsInHanded {} Try.checked os 10 .any (Rows.fundNilSpec.pre6 enc Try.prog Try.f10 Rows.fundNilRow.domain false) (Rows.fundNilSpec.post enc Try.prog Try.f10 false true false false) :=
  law_lifted Try.func10 rfl rfl (by decide +kernel) (fun H ds h => by match ds, h with | [_, _, _], _ => rfl) (by kernel_rfl) os started H enc
    (ChangeSpec.witness6 (enc := enc) (C := Try.checked) false ⟨#[], #[.int .i64 0, .int .i64 0, .int .i64 0], []⟩ 8 (by kernel_rfl) (by kernel_rfl) (by kernel_rfl) (by kernel_rfl)) fnil_walk

theorem fundNil_proved : Rows.FundNilSaid :=
  OpenClaim.holds_of_wide 10 Try.f10 rfl rfl rfl rfl rfl rfl rfl ⟨rfl, rfl, rfl, rfl, rfl⟩ rfl rfl rfl rfl rfl (by kernel_rfl) Try.func10 (by kernel_rfl)
    (of_decide_eq_true (by kernel_rfl)) (by unfold Func.isWrapper; first | (rw [if_pos (by decide +kernel)]; kernel_rfl) | (rw [if_neg (by decide +kernel)]; exact ⟨rfl, rfl⟩))
    (fun os started H enc _ => fundNil_lifted os started H enc)
#print axioms fundNil_proved
end Go.Proofs.Ytoeoneiopcagfaa
