/- OctetShort: a number's bytes are as many as it needs seven bits for, and a greater one has no fewer. For all numbers, with no condition. -/
import Derived.Test.YtpnliafjiookpaaOctK
import Derived.Test.YtpnliafjiookpaaFrame
namespace Go.Proofs.Ytpnliafjiookpaa
open Go.RowKit Go.ChangeShapes

theorem numF_mono (f : Nat) : ∀ {n m : Nat}, n ≤ m → (numF f n).length ≤ (numF f m).length := by
  induction f with
  | zero => intro n m _; simp [numF]
  | succ f ih =>
    intro n m h
    by_cases hm : m < 128
    · rw [numF_last (by omega) hm, numF_last (by omega) (by omega)]; simp
    · by_cases hn : n < 128
      · rw [numF_last (by omega) hn, numF_more hm]; simp
      · rw [numF_more hn, numF_more hm]
        have := ih (n := n / 128) (m := m / 128) (by omega)
        simp; omega

theorem num_mono {n m : Nat} (h : n ≤ m) : (num n).length ≤ (num m).length := numF_mono 10 h

set_option maxRecDepth 100000 in
set_option maxHeartbeats 1000000 in
theorem short_any {n m : Nat} {w : World} (hn : U64 n) (hm : U64 m) :
    Calls Try.prog 5 #[.int .u64 n, .int .u64 m] w fun e w' => e = .returned (.bool true) ∧ Below w.heap.size w w' := by
  have hn1 : (n : Int) ≤ 18446744073709551615 := by unfold U64 at hn; omega
  have hm1 : (m : Int) ≤ 18446744073709551615 := by unfold U64 at hm; omega
  have hnm : n ≤ m ∨ m ≤ n := by omega
  go_enter Try.func5, Try.ntmps5
  go_wp2_with fail
  refine (putNum_any (nil_rd w) (by omega) hn).mono ?_
  rintro e w1 ⟨a1, k1, c1, rfl, ho1, hb1, h1, h2⟩
  go_wp2_with fail
  refine (putNum_any (nil_rd w1) (by omega) hm).mono ?_
  rintro e w2 ⟨a2, k2, c2, rfl, ho2, hb2, h3, h4⟩
  have hb2 := below_trans hb1 hb2
  have hl1 := ho1.len
  have hl2 := ho2.len
  have hA : n ≤ m → k1 ≤ k2 := fun h => by have := num_mono h; simp at hl1 hl2; omega
  have hB : m ≤ n → k2 ≤ k1 := fun h => by have := num_mono h; simp at hl1 hl2; omega
  have HL := hide hl1
  clear hl1 hl2
  have key : (n < m ∧ k1 ≤ k2) ∨ (m < n ∧ k2 ≤ k1) ∨ (n = m ∧ k1 ≤ k2 ∧ k2 ≤ k1) := by omega
  clear hA hB hnm
  have HU := hide hn
  rcases key with ⟨q1, q2⟩ | ⟨q1, q2⟩ | ⟨q1, q2, q3⟩
  all_goals
    go_wp2_with fail
    go_loopw [7, 8] (fun i r wr => ∃ (f q : Nat) (pre : List UInt8), PutSt n f q pre ∧ i = .int .i64 (pre.length + 1 : Nat) ∧ r = .int .u64 (q / 128 : Nat) ∧ wr = w2) (fun _ r _ => (intOf r).toNat)
    case atStart => exact ⟨10, n, [], PutSt.start HU.out, rfl, by go_num, rfl⟩
    case round =>
      obtain ⟨f, q, pre, hst, rfl, rfl, rfl⟩ := hrel
      have hpl := hst.len
      have hq : (q : Int) ≤ 18446744073709551615 := by have := hst.2.2.2.2.2; unfold U64 at this; omega
      by_cases hlt : q < 128
      · have hk : (k1 : Int) = (pre.length : Int) + 1 := by have := HL.out; rw [hst.last hlt] at this; simp at this; omega
        have HK := hide hk
        clear hk
        go_wp2_with fail
        refine (known_any _).mono ?_
        rintro e w3 ⟨rfl, hb3⟩
        have hk : ((k1 : Int) == (pre.length : Int) + 1) = true := by simpa using HK.out
        go_wp2_with fail
        go_ret
        exact ⟨rfl, below_trans hb2 hb3⟩
      · go_wp2_with fail
        go_roundw
        case rel => exact ⟨f - 1, q / 128, pre ++ [septet q], hst.more hlt, by simp, by go_num, trivial⟩
        case measure => simp [intOf]; omega

theorem short_walk : LawWalk 5 Try.f5.params.toList := by
  intro W args h
  obtain ⟨v0, v1, rfl, h0, h1⟩ := argsOk2 h
  obtain ⟨n, rfl, hn⟩ := one_u64 Try.underlying23 h0
  obtain ⟨m, rfl, hm⟩ := one_u64 Try.underlying23 h1
  exact short_any hn hm

set_option maxRecDepth 100000 in
theorem octetShort_lifted (os : Os) (started : os.Started) (H : Type) (enc : TypeId × Value → H) :
    ReturnsInHanded {} Try.checked os 5 .any (Rows.octetShortSpec.pre6 enc Try.prog Try.f5 Rows.octetShortRow.domain false) (Rows.octetShortSpec.post enc Try.prog Try.f5 false true false false) :=
  law_lifted Try.func5 rfl rfl (by decide +kernel) (fun H ds h => by match ds, h with | [_, _], _ => rfl) (by kernel_rfl) os started H enc
    (ChangeSpec.witness6 (enc := enc) (C := Try.checked) false ⟨#[], #[.int .u64 0, .int .u64 0], []⟩ 8 (by kernel_rfl) (by kernel_rfl) (by kernel_rfl) (by kernel_rfl)) short_walk

theorem octetShort_proved : Rows.OctetShortSaid :=
  OpenClaim.holds_of_wide 5 Try.f5 rfl rfl rfl rfl rfl rfl rfl ⟨rfl, rfl, rfl, rfl, rfl⟩ rfl rfl rfl rfl rfl (by kernel_rfl) Try.func5 (by kernel_rfl)
    (of_decide_eq_true (by kernel_rfl)) (by unfold Func.isWrapper; first | (rw [if_pos (by decide +kernel)]; kernel_rfl) | (rw [if_neg (by decide +kernel)]; exact ⟨rfl, rfl⟩))
    (fun os started H enc _ => octetShort_lifted os started H enc)
#print axioms octetShort_proved
end Go.Proofs.Ytpnliafjiookpaa
