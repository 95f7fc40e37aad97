/- OctetOnce: what is read as a number, put again, are the bytes that were read. For all bytes, with no condition. -/
import Derived.Test.YtpnliafjiookpaaRdF
import Derived.Test.YtpnliafjiookpaaRdP
import Derived.Deep.RegionHeld3
namespace Go.Proofs.Ytpnliafjiookpaa
open Go.RowKit

set_option maxRecDepth 100000 in
set_option maxHeartbeats 1000000 in
theorem once_any {bo : Option Addr} {bn bc : Nat} {bs : List UInt8} {w : World} (hB : RdB w bo bn bc bs) (hb : bn ≤ 140737488351232) :
    Calls Try.prog 7 #[.slice bo bn bc] w fun e w' => e = .returned (.bool true) ∧ Below w.heap.size w w' := by
  have hbc := hB.cap
  obtain ⟨b1, e1, q1, q3⟩ := cut_is bn 40 (by omega)
  have hB := hB.take byteE_ok q1
  generalize bs.take b1 = bs at hB
  go_enter Try.func7, Try.ntmps7
  go_wp2_with fail
  refine (newReader_any hB (by omega)).mono ?_
  rintro e w1 ⟨g, rfl, hr, hb1⟩
  go_wp2_with fail
  refine (num_any (most := 18446744073709551615) hr (by unfold U64; omega)).mono ?_
  rintro e w2 ⟨rfl, hr2, hg2⟩
  have hW : Below w.heap.size w w2 := hb1.grown hg2 hb1.size (fun k hk => by cases hk; exact hr.le)
  go_wp2_with fail
  refine (err_any hr2).mono ?_
  rintro e w3 ⟨rfl, rfl⟩
  have hp := parse_ok bs
  have hbl := hB.len
  have hcases : ((parse bs).2.2 ≠ 0 ∧ numR 18446744073709551615 (bs, 0) = ((bs, (parse bs).2.2), 0)) ∨ ((parse bs).2.2 = 0 ∧ numR 18446744073709551615 (bs, 0) = ((bs.drop (parse bs).2.1, 0), (parse bs).1)) := by
    rcases hp with ⟨h1, h2, h3, h4⟩ | ⟨h1, h2, h3, h4, h5⟩
    · exact .inl ⟨h1, by unfold numR; rw [if_neg (by simp), if_pos h1]⟩
    · exact .inr ⟨h1, by unfold numR; rw [if_neg (by simp), if_neg (by simpa using h1), if_neg (by simp; omega)]⟩
  rcases hcases with ⟨c1, c2⟩ | ⟨c1, c2⟩
  · rw [c2] at hr2 ⊢
    have t1 : (((parse bs).2.2 : Int) != 0) = true := by simpa using c1
    have C := hide c1
    clear c1 c2 hp
    go_wp2_with fail
    refine (known_any _).mono ?_
    rintro e w4 ⟨rfl, hb4⟩
    go_wp2_with fail
    refine (left_any (hr2.below hb4)).mono ?_
    rintro e w5 ⟨rfl, rfl⟩
    have t2 : ((bs.length : Int) == (b1 : Int)) = true := by simp [hbl]
    clear hbl
    go_wp2_with fail
    go_ret
    exact ⟨rfl, below_trans hW hb4⟩
  · rw [c2] at hr2 ⊢
    have t1 : (((0 : Nat) : Int) != 0) = false := by decide
    have hbk := parse_back c1
    have hk2 : (parse bs).2.1 ≤ b1 := by
      rcases hp with h | h
      · exact absurd c1 h.1
      · omega
    have hu : U64 (parse bs).1 := by
      rcases hp with h | h
      · exact absurd c1 h.1
      · exact h.2.1
    have HB := hide (And.intro hbk.1 (And.intro c1 hu))
    have hk0 := hbk.2.1
    have hk10 := hbk.2.2
    clear c1 c2 hp hbk hu
    generalize (parse bs).2.1 = k at *
    generalize (parse bs).1 = n at *
    obtain ⟨m, rfl⟩ : ∃ m, b1 = m + k := ⟨b1 - k, by omega⟩
    have HL := hide hbl
    clear hbl
    go_wp2_with fail
    refine (left_len (m := m) hr2 (by simp [HL.out])).mono ?_
    rintro e w5 ⟨rfl, rfl⟩
    go_wp2_with fail
    rw [show (m : Int) + k - m = k by omega]
    have hB2 := hB.below hW
    have hcut := hB2.take byteE_ok (k := k) (by omega)
    rw [← HB.out.1] at hcut
    have t2 : (0 : Int) < (k : Int) := by omega
    have t3 : (k : Int) ≤ 10 := by omega
    have t4 : k ≤ bc := by omega
    have hd : Below w2.heap.size w2 w2.drew := (Below.refl _ _).drew
    go_region_held3 (fun w' : World => w'.heap.size = w'.heap.size) (first | rfl | trivial) (first
      | (go_at_call 16; refine (known_any _).mono ?_; rintro e w4 ⟨rfl, hr4⟩; have hb4 := below_trans (a := w2) (by assumption) hr4)
      | (go_at_call 12; refine (putNum_any (nil_rd _) (by omega) HB.out.2.2).mono ?_; rintro e w5 ⟨a5, k5, c5, rfl, ho5, hr5, hl5, _⟩; have hb5 := below_trans (a := w2) (by assumption) hr5)
      | (go_at_call 17; refine (same_yes ho5.rd (hcut.below (by assumption)) (by simp) (by omega)).mono ?_; rintro e w6 ⟨rfl, hr6⟩; have hb6 := below_trans (a := w2) (by assumption) hr6))
    all_goals
      go_wp2_with fail
      go_ret
      exact ⟨rfl, below_trans hW hb6⟩

theorem once_walk : LawWalk 7 Try.f7.params.toList := by
  intro W args h
  obtain ⟨v0, rfl, h0⟩ := argsOk1 h
  obtain ⟨bo, bn, bc, bs, rfl, hB, hb, _⟩ := one_by h0
  exact once_any hB hb

set_option maxRecDepth 100000 in
theorem octetOnce_lifted (os : Os) (started : os.Started) (H : Type) (enc : TypeId × Value → H) :
    ReturnsInHanded {} Try.checked os 7 .any (Rows.octetOnceSpec.pre6 enc Try.prog Try.f7 Rows.octetOnceRow.domain false) (Rows.octetOnceSpec.post enc Try.prog Try.f7 false true false false) :=
  law_lifted Try.func7 rfl rfl (by decide +kernel) (fun H ds h => by match ds, h with | [_], _ => rfl) (by kernel_rfl) os started H enc
    (ChangeSpec.witness6 (enc := enc) (C := Try.checked) false ⟨#[], #[.slice none 0 0], []⟩ 8 (by kernel_rfl) (by kernel_rfl) (by kernel_rfl) (by kernel_rfl)) once_walk

theorem octetOnce_proved : Rows.OctetOnceSaid :=
  OpenClaim.holds_of_wide 7 Try.f7 rfl rfl rfl rfl rfl rfl rfl ⟨rfl, rfl, rfl, rfl, rfl⟩ rfl rfl rfl rfl rfl (by kernel_rfl) Try.func7 (by kernel_rfl)
    (of_decide_eq_true (by kernel_rfl)) (by unfold Func.isWrapper; first | (rw [if_pos (by decide +kernel)]; kernel_rfl) | (rw [if_neg (by decide +kernel)]; exact ⟨rfl, rfl⟩))
    (fun os started H enc _ => octetOnce_lifted os started H enc)
#print axioms octetOnce_proved
end Go.Proofs.Ytpnliafjiookpaa

