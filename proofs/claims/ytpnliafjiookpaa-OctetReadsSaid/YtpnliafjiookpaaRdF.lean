/- The reader of the layer octet: Text; a nil reader; the laws OctetInts, OctetNil's parts. -/
import Derived.Test.YtpnliafjiookpaaRdE
import Derived.Test.YtpnliafjiookpaaOctF
namespace Go.Proofs.Ytpnliafjiookpaa
open Go.RowKit

set_option maxRecDepth 100000 in
set_option maxHeartbeats 1000000 in
theorem text_any {w : World} {base g : Nat} {s : List UInt8 × Nat} {most : Int} (h : Rdr w base g s) (hm : I64 most) :
    Calls Try.prog 28 #[.pointer (some ⟨g, 0, none⟩), .int .i64 most] w fun e w' => e = .returned (.string (strOf (bytesR most s).2)) ∧ Rdr w' base g (bytesR most s).1 ∧ w.grownBy w' (some g) := by
  go_enter Try.func28, Try.ntmps28
  go_wp2_with fail
  refine (bytes_any h hm).mono ?_
  rintro e w1 ⟨a1, n1, c1, rfl, ho, h1, hg⟩
  have hc := conv_bytes ho.rd
  go_wp2_with fail
  go_ret
  exact ⟨rfl, h1, hg⟩

set_option maxRecDepth 100000 in
set_option maxHeartbeats 1000000 in
theorem nilNum_any {w : World} {most : Nat} :
    Calls Try.prog 23 #[.pointer none, .int .u64 most] w fun e w' => e = .returned (.int .u64 0) ∧ Below w.heap.size w w' := by
  go_enter Try.func23, Try.ntmps23
  go_wp2_with fail
  go_in
  go_wp2_with fail
  go_ret
  exact ⟨rfl, below_trans (below_alloc _ _) (below_alloc _ _)⟩

set_option maxRecDepth 100000 in
set_option maxHeartbeats 1000000 in
theorem nilBytes_any {w : World} {most : Int} :
    Calls Try.prog 26 #[.pointer none, .int .i64 most] w fun e w' => e = .returned (.slice none 0 0) ∧ Below w.heap.size w w' := by
  go_enter Try.func26, Try.ntmps26
  go_wp2_with fail
  go_in
  go_wp2_with fail
  go_ret
  exact ⟨rfl, below_trans (below_alloc _ _) (below_alloc _ _)⟩

set_option maxRecDepth 100000 in
set_option maxHeartbeats 1000000 in
theorem octNil_any {w : World} {n : Int} {most : Nat} :
    Calls Try.prog 9 #[.int .i64 n, .int .u64 most] w fun e w' => e = .returned (.bool true) ∧ Below w.heap.size w w' := by
  go_enter Try.func9, Try.ntmps9
  go_wp2_with fail
  refine (known_any _).mono ?_
  rintro e w1 ⟨rfl, hb1⟩
  go_wp2_with fail
  refine nilNum_any.mono ?_
  rintro e w2 ⟨rfl, hb2⟩
  have hb2 := below_trans hb1 hb2
  go_wp2_with fail
  go_in
  go_wp2_with fail
  refine (nilNum_any (most := 18446744073709551615)).mono ?_
  rintro e w3 ⟨rfl, hb3⟩
  have hb3 := below_trans hb2 hb3
  go_wp2_with fail
  refine (back_any (n := 0) (by unfold U64; omega)).mono ?_
  rintro e w4 ⟨rfl, rfl⟩
  have hz : unf 0 = 0 := by decide
  go_wp2_with fail
  refine nilBytes_any.mono ?_
  rintro e w5 ⟨rfl, hb5⟩
  have hb5 := below_trans hb3 hb5
  go_wp2_with fail
  go_in
  go_wp2_with fail
  refine nilBytes_any.mono ?_
  rintro e w6 ⟨rfl, hb6⟩
  have hb6 := below_trans hb5 hb6
  have hc := conv_bytes (nil_rd w6)
  have hs0 : (strOf []).toList = [] := by decide +kernel
  go_wp2_with fail
  go_in
  go_wp2_with fail
  go_in
  go_wp2_with fail
  go_in
  go_wp2_with fail
  go_in
  go_wp2_with fail
  go_ret
  exact ⟨rfl, hb6⟩

theorem octNil_walk : LawWalk 9 Try.f9.params.toList := by
  intro W args h
  obtain ⟨v0, v1, rfl, h0, h1⟩ := argsOk2 h
  obtain ⟨n, rfl, hn⟩ := one_i64 Try.underlying3 h0
  obtain ⟨m, rfl, hm⟩ := one_u64 Try.underlying23 h1
  exact octNil_any

set_option maxRecDepth 100000 in
theorem octetNil_lifted (os : Os) (started : os.Started) (H : Type) (enc : TypeId × Value → H) :
    ReturnsInHanded {} Try.checked os 9 .any (Rows.octetNilSpec.pre6 enc Try.prog Try.f9 Rows.octetNilRow.domain false) (Rows.octetNilSpec.post enc Try.prog Try.f9 false true false false) :=
  law_lifted Try.func9 rfl rfl (by decide +kernel) (fun H ds h => by match ds, h with | [_, _], _ => rfl) (by kernel_rfl) os started H enc
    (ChangeSpec.witness6 (enc := enc) (C := Try.checked) false ⟨#[], #[.int .i64 0, .int .u64 0], []⟩ 8 (by kernel_rfl) (by kernel_rfl) (by kernel_rfl) (by kernel_rfl)) octNil_walk

theorem octetNil_proved : Rows.OctetNilSaid :=
  OpenClaim.holds_of_wide 9 Try.f9 rfl rfl rfl rfl rfl rfl rfl ⟨rfl, rfl, rfl, rfl, rfl⟩ rfl rfl rfl rfl rfl (by kernel_rfl) Try.func9 (by kernel_rfl)
    (of_decide_eq_true (by kernel_rfl)) (by unfold Func.isWrapper; first | (rw [if_pos (by decide +kernel)]; kernel_rfl) | (rw [if_neg (by decide +kernel)]; exact ⟨rfl, rfl⟩))
    (fun os started H enc _ => octetNil_lifted os started H enc)
#print axioms octetNil_proved
end Go.Proofs.Ytpnliafjiookpaa
