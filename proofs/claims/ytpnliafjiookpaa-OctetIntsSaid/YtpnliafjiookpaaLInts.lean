/- OctetInts: a number with a sign, and the one below its own mirror, differ in one bit; small ones are short whatever their sign. -/
import Derived.Test.YtpnliafjiookpaaRdF
import Derived.Test.YtpnliafjiookpaaRdP
import Derived.BigQuiet
import Derived.Deep.RegionHeld3
namespace Go.Proofs.Ytpnliafjiookpaa
open Go.RowKit

theorem num_pair (m : Nat) : ∃ (a b : UInt8) (l : List UInt8), num (2 * m) = a :: l ∧ num (2 * m + 1) = b :: l ∧ a.toNat + 1 = b.toNat ∧ (m < 64 → l = []) := by
  unfold num numF
  by_cases h : m < 64
  · rw [if_pos (by omega), if_pos (by omega)]
    refine ⟨_, _, [], rfl, rfl, ?_, fun _ => rfl⟩
    rw [UInt8.toNat_ofNat', UInt8.toNat_ofNat']
    omega
  · rw [if_neg (by omega), if_neg (by omega), show (2 * m + 1) / 128 = 2 * m / 128 by omega]
    refine ⟨_, _, _, rfl, rfl, ?_, fun hh => absurd hh h⟩
    rw [septet_toNat, septet_toNat]
    omega

set_option maxRecDepth 100000 in
set_option maxHeartbeats 1000000 in
theorem ints_any {z : Int} {w : World} (hz : I64 z) :
    Calls Try.prog 6 #[.int .i64 z] w fun e w' => e = .returned (.bool true) ∧ Below w.heap.size w w' := by
  obtain ⟨hz0, hz1⟩ := hz
  obtain ⟨m, hm, hm1⟩ : ∃ m : Nat, (z = m ∨ z = -(m : Int) - 1) ∧ (m : Int) ≤ 9223372036854775807 := by
    by_cases h : z < 0
    · exact ⟨(-(z + 1)).toNat, by omega, by omega⟩
    · exact ⟨z.toNat, by omega, by omega⟩
  go_enter Try.func6, Try.ntmps6
  have hi : I64 (m : Int) := by unfold I64; omega
  have hi2 : I64 (-(m : Int) - 1) := by unfold I64; omega
  have hf1 : fold (m : Int) = 2 * m := by unfold fold; rw [if_pos (by omega)]; omega
  have hf2 : fold (-(m : Int) - 1) = 2 * m + 1 := by unfold fold; rw [if_neg (by omega)]; omega
  obtain ⟨xa, xb, xl, hn1, hn2, hab, hsm⟩ := num_pair m
  have hu := unf_fold hi
  have hu2 := unf_fold hi2
  rw [hf1] at hu
  rw [hf2] at hu2
  have HF := hide (And.intro hf1 hf2)
  have HN := hide (And.intro hn1 hn2)
  have HU := hide (And.intro hu hu2)
  have HAB := hide hab
  clear hf1 hf2 hn1 hn2 hu hu2 hab
  clear hz0 hz1
  have e0 : -(-(m : Int) - 1 + 1) = m := by omega
  have E0 := hide e0
  have HI := hide (And.intro hi hi2)
  have HS := hide hsm
  clear e0 hi hi2 hsm
  rcases hm with rfl | rfl
  all_goals
    first | have e0 := E0.out
    go_wp2_with fail
    refine (putInt_any (nil_rd _) (by omega) HI.out.1).mono ?_
    rintro e w1 ⟨a1, k1, c1, rfl, ho1, hb1, q4, q5⟩
    go_wp2_with fail
    refine (putInt_any (nil_rd _) (by omega) HI.out.2).mono ?_
    rintro e w2 ⟨a2, k2, c2, rfl, ho2, hb2, q6, q7⟩
    rw [HF.out.1, HN.out.1] at ho1
    rw [HF.out.2, HN.out.2] at ho2
    have hr1 : RdB w2 a1 k1 c1 (xa :: xl) := ho1.rd.below hb2
    have hr2 : RdB w2 a2 k2 c2 (xb :: xl) := ho2.rd
    have hb2 := below_trans hb1 hb2
    obtain rfl : k2 = k1 := by rw [← hr1.len, ← hr2.len]; rfl
    obtain ⟨B1, O1, rfl, cell1⟩ := hr1.byte 0 (by omega)
    obtain ⟨B2, O2, rfl, cell2⟩ := hr2.byte 0 (by omega)
    have hx1 : bt (xa :: xl) 0 = xa.toNat := rfl
    have hx2 : bt (xb :: xl) 0 = xa.toNat + 1 := HAB.out.symm
    rw [hx1, Nat.add_zero] at cell1
    rw [hx2, Nat.add_zero] at cell2
    have hx3 : ((xa.toNat : Int) ≤ 254) := by have := HAB.out; have := xb.toNat_lt; omega
    have hk1 : k2 = xl.length + 1 := by have := hr1.len; simpa using this.symm
    clear hx1 hx2
    generalize xa.toNat = x at *
    have t1 : ((k2 : Int) == 0) = false := by simp; omega
    have t2 : ((k2 : Int) != (k2 : Int)) = false := by simp
    have t3 : (((x : Int) + 1) != (((x + 1 : Nat)) : Int)) = false := by simp
    have c0 := hr1.cap
    have c0' := hr2.cap
    have HK := hide hk1
    clear hk1
    have hd : (decide ((m : Int) < 64) = true ∧ ((k2 : Int) != 1) = false) ∨ decide ((m : Int) < 64) = false := by
      by_cases h : m < 64
      · left
        have := HS.out h
        have h2 := HK.out
        rw [this] at h2
        subst h2
        exact ⟨by simp; omega, rfl⟩
      · right; simp; omega
    rcases hd with ⟨hd, hd2⟩ | hd
    all_goals
      go_wp2_with fail
      go_quiet (fail)
      go_wp2_with fail
      have hdq : Below w2.heap.size w2 (w2.drewN nq) := below_drewN (Below.refl _ _) nq
      have hr1 := hr1.below hdq
      have hr2 := hr2.below hdq
      have hb2 := below_trans hb2 hdq
      clear cell1 cell2 hdq
      generalize w2.drewN nq = w2 at *
      refine (newReader_any hr1 (by omega)).mono ?_
      rintro e w3 ⟨g1, rfl, hg1, hb3⟩
      go_wp2_with fail
      refine (newReader_any (hr2.below hb3) (by omega)).mono ?_
      rintro e w4 ⟨g2, rfl, hg2, hb4⟩
      have hlt := hg1.lt
      have hle2 := hg2.le
      have hle1 := hg1.le
      have hg1 := hg1.below hb4
      have hs1 := hr1.drop byteE_ok (k := 1) (by omega)
      have hs2 := hr2.drop byteE_ok (k := 1) (by omega)
      have hb4 := below_trans hb3 hb4
      have hs3 := hb3.size
      have hs4 := hb4.size
      have hp1 : (numR 18446744073709551615 (xa :: xl, 0)).2 = 2 * m := by
        have := parse_num (m := 2 * m) (by unfold U64; omega) []
        rw [HN.out.1, List.append_nil] at this
        unfold numR
        rw [if_neg (by simp), this, if_neg (by simp), if_neg (by simp; omega)]
      have hp2 : (numR 18446744073709551615 (xb :: xl, 0)).2 = 2 * m + 1 := by
        have := parse_num (m := 2 * m + 1) (by unfold U64; omega) []
        rw [HN.out.2, List.append_nil] at this
        unfold numR
        rw [if_neg (by simp), this, if_neg (by simp), if_neg (by simp; omega)]
      have HP1 := hide (hp1 ▸ HU.out.1)
      have HP2 := hide (hp2 ▸ HU.out.2)
      clear hp1 hp2
      have tm : ((m : Int) == (m : Int)) = true := by simp
      have tn : ((-(m : Int) - 1) == (-(m : Int) - 1)) = true := by simp
      have tw1 : IntKind.i64.wrap (-(m : Int)) = -(m : Int) := by go_arith
      have tw2 : IntKind.i64.wrap (-(m : Int) - 1) = -(m : Int) - 1 := by go_arith
      obtain ⟨p1, hp1⟩ : ∃ p, (if c1 = 1 then some (⟨B1, O1, none⟩ : Addr) else some ⟨B1, O1 + 1, none⟩) = p := ⟨_, rfl⟩
      obtain ⟨p2, hp2⟩ : ∃ p, (if c2 = 1 then some (⟨B2, O2, none⟩ : Addr) else some ⟨B2, O2 + 1, none⟩) = p := ⟨_, rfl⟩
      have hs1 : RdB w2 p1 (k2 - 1) (c1 - 1) xl := by rw [← hp1]; exact hs1
      have hs2 : RdB w2 p2 (k2 - 1) (c2 - 1) xl := by rw [← hp2]; exact hs2
      have ts1 : (1 : Int) ≤ (k2 : Int) := by omega
      have ts2 : (k2 : Int) ≤ (c1 : Int) := by omega
      have ts3 : (k2 : Int) ≤ (c2 : Int) := by omega
      have hd : Below w4.heap.size w4 w4.drew := (Below.refl _ _).drew
      go_wp2_with fail
      go_region_held3 (fun w' : World => w'.heap.size = w'.heap.size) (first | rfl | trivial) (first
        | (go_at_call 16; refine (known_any _).mono ?_; rintro e w5 ⟨rfl, hr5⟩; have hb5 := below_trans (a := w4) (by assumption) hr5; clear hr5)
        | (go_at_call 22; refine (int_any (hg1.below hb5)).mono ?_; rintro e w6 ⟨rfl, _, hr6⟩; rw [HP1.out]; have hg2' := (hg2.below hb5).keep hr6 (fun k hk => by cases hk; omega); have hb6 := (below_trans hb4 hb5).grown hr6 (below_trans hb4 hb5).size (fun k hk => by cases hk; omega))
        | (go_at_call 22; refine (int_any hg2').mono ?_; rintro e w7 ⟨rfl, _, hr7⟩; rw [HP2.out]; have hb7 := hb6.grown hr7 hb6.size (fun k hk => by cases hk; omega))
        | (go_at_call 17; refine (same_yes (hs1.below hb7) (hs2.below hb7) rfl (by omega)).mono ?_; rintro e w8 ⟨rfl, hr8⟩; have hb8 := below_trans hb7 hr8))
      all_goals
        go_wp2_with fail
        go_ret
        exact ⟨rfl, below_trans hb2 hb8⟩

theorem ints_walk : LawWalk 6 Try.f6.params.toList := by
  intro W args h
  obtain ⟨v0, rfl, h0⟩ := argsOk1 h
  obtain ⟨n, rfl, hn⟩ := one_i64 Try.underlying2 h0
  exact ints_any hn

set_option maxRecDepth 100000 in
theorem octetInts_lifted (os : Os) (started : os.Started) (H : Type) (enc : TypeId × Value → H) :
    ReturnsInHanded {} Try.checked os 6 .any (Rows.octetIntsSpec.pre6 enc Try.prog Try.f6 Rows.octetIntsRow.domain false) (Rows.octetIntsSpec.post enc Try.prog Try.f6 false true false false) :=
  law_lifted Try.func6 rfl rfl (by decide +kernel) (fun H ds h => by match ds, h with | [_], _ => rfl) (by kernel_rfl) os started H enc
    (ChangeSpec.witness6 (enc := enc) (C := Try.checked) false ⟨#[], #[.int .i64 0], []⟩ 8 (by kernel_rfl) (by kernel_rfl) (by kernel_rfl) (by kernel_rfl)) ints_walk

theorem octetInts_proved : Rows.OctetIntsSaid :=
  OpenClaim.holds_of_wide 6 Try.f6 rfl rfl rfl rfl rfl rfl rfl ⟨rfl, rfl, rfl, rfl, rfl⟩ rfl rfl rfl rfl rfl (by kernel_rfl) Try.func6 (by kernel_rfl)
    (of_decide_eq_true (by kernel_rfl)) (by unfold Func.isWrapper; first | (rw [if_pos (by decide +kernel)]; kernel_rfl) | (rw [if_neg (by decide +kernel)]; exact ⟨rfl, rfl⟩))
    (fun os started H enc _ => octetInts_lifted os started H enc)
#print axioms octetInts_proved
end Go.Proofs.Ytpnliafjiookpaa
