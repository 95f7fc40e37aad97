/- OctetCut: bytes that are cut off anywhere within what was put are short. -/
import Derived.Test.YtpnliafjiookpaaRdF
import Derived.Test.YtpnliafjiookpaaRdP
import Derived.Deep.RegionHeld3
namespace Go.Proofs.Ytpnliafjiookpaa
open Go.RowKit

theorem cut_num {n j : Nat} (hn : U64 n) (hj : j < (num n).length) (most : Nat) : numR most ((num n).take j, 0) = (((num n).take j, 4), 0) := by
  unfold numR
  rw [if_neg (by simp), parse_cut hn hj, if_pos (by simp)]

theorem cut_bytes {xs : List UInt8} {j : Nat} {most : Int} (hm : (xs.length : Int) ≤ most) (hl : xs.length ≤ 50) (hj : j < (num xs.length ++ xs).length) :
    bytesR most ((num xs.length ++ xs).take j, 0) = (((num xs.length ++ xs).take j, 4), []) := by
  have hu : U64 xs.length := by unfold U64; omega
  by_cases h : j < (num xs.length).length
  · rw [List.take_append_of_le_length (by omega)]
    unfold bytesR
    rw [if_neg (by simp), parse_cut hu h, if_pos (by simp)]
  · rw [List.take_append, List.take_of_length_le (by omega)]
    have hp := parse_num hu (xs.take (j - (num xs.length).length))
    rw [List.length_append] at hj
    refine (bytesR_cases (s := (num xs.length ++ xs.take (j - (num xs.length).length), 0)) rfl (by rw [hp])).2.1 ?_ ?_
    · rw [hp]; simp; omega
    · rw [hp]; simp; omega

theorem num_pos (n : Nat) : 0 < (num n).length := by
  unfold num numF
  split <;> simp

theorem at_is (z : Int) (k : Nat) (h0 : 0 < k) (hk : k ≤ 140737488355328) : ∃ j : Nat, wrap64 ((IntKind.u64.wrap z).tmod k) = j ∧ j < k := by
  have h : 0 ≤ IntKind.u64.wrap z := by go_arith
  generalize IntKind.u64.wrap z = y at h
  obtain ⟨y, rfl⟩ := Int.eq_ofNat_of_zero_le h
  have : ((y : Int).tmod k) = ((y % k : Nat) : Int) := by rw [Int.tmod_eq_emod_of_nonneg (by omega)]; rfl
  have hlt : y % k < k := Nat.mod_lt _ h0
  exact ⟨y % k, by rw [this]; go_arith, hlt⟩

set_option maxRecDepth 100000 in
set_option maxHeartbeats 1000000 in
theorem cut_any {bo : Option Addr} {n bn bc : Nat} {at_ : Int} {bs : List UInt8} {w : World} (hn : U64 n) (hB : RdB w bo bn bc bs) (hb : bn ≤ 140737488351232) :
    Calls Try.prog 8 #[.int .u64 n, .slice bo bn bc, .int .i64 at_] w fun e w' => e = .returned (.bool true) ∧ Below w.heap.size w w' := by
  have hbc := hB.cap
  obtain ⟨b1, e1, q1, q3⟩ := cut_is bn 50 (by omega)
  have hB := hB.take byteE_ok q1
  generalize bs.take b1 = bs at hB
  go_enter Try.func8, Try.ntmps8
  go_wp2_with fail
  refine (putNum_any (nil_rd _) (by omega) hn).mono ?_
  rintro e w1 ⟨a1, k1, c1, rfl, ho1, hb1, q4, q5⟩
  go_wp2_with fail
  refine (putBytes_any (nil_rd _) (hB.below hb1) (by omega)).mono ?_
  rintro e w2 ⟨a2, k2, c2, rfl, ho2, hb2, q6, q7⟩
  have hb2o := hb2
  have hb2 := below_trans hb1 hb2
  have t1 : ((k1 : Int) == 0) = false := by simp; omega
  have t2 : ((k2 : Int) == 0) = false := by simp; omega
  obtain ⟨j1, e2, r1⟩ := at_is at_ k1 (by omega) (by omega)
  obtain ⟨j2, e3, r2⟩ := at_is at_ k2 (by omega) (by omega)
  have r3 := ho1.rd.cap
  have r4 := ho2.rd.cap
  have hx1 := cut_num (j := j1) hn (by have := ho1.rd.len; simp at this; omega)
  have hxl := hB.len
  have hx2 := cut_bytes (xs := bs) (j := j2) (most := 50) (by omega) (by omega) (by have := ho2.rd.len; rw [hxl]; simp at this ⊢; omega)
  have hr1 : RdB w2 a1 j1 c1 ((num n).take j1) := (ho1.rd.below hb2o).take byteE_ok (by omega)
  have hr2 : RdB w2 a2 j2 c2 ((num bs.length ++ bs).take j2) := by have := ho2.rd.take byteE_ok (k := j2) (by omega); rw [hxl]; simpa using this
  generalize (num n).take j1 = l1 at *
  generalize (num bs.length ++ bs).take j2 = l2 at *
  clear hxl
  go_wp2_with fail
  refine (newReader_any hr1 (by omega)).mono ?_
  rintro e w3 ⟨g1, rfl, hg1, hb3⟩
  go_wp2_with fail
  refine (newReader_any (hr2.below hb3) (by omega)).mono ?_
  rintro e w4 ⟨g2, rfl, hg2, hb4⟩
  have hlt := hg1.lt
  have hg1 := hg1.below hb4
  have hW := below_trans (below_trans hb2 hb3) hb4
  have hle1 := hg1.le
  have hle2 := hg2.le
  have hs4 := hW.size
  have hs2 := hb2.size
  have hs3 := hb3.size
  go_wp2_with fail
  refine (known_any _).mono ?_
  rintro e w5 ⟨rfl, hb5⟩
  have hg1 := hg1.below hb5
  have hg2 := hg2.below hb5
  go_wp2_with fail
  refine (num_any hg1 hn).mono ?_
  rintro e w6 ⟨rfl, hg1, hg6⟩
  rw [hx1] at hg1 ⊢
  have hg2 := hg2.keep hg6 (fun k hk => by cases hk; exact hlt)
  have hW := (below_trans hW hb5).grown hg6 (below_trans hW hb5).size (fun k hk => by cases hk; omega)
  go_wp2_with fail
  refine (err_any hg1).mono ?_
  rintro e w7 ⟨rfl, rfl⟩
  go_wp2_with fail
  refine (bytes_any hg2 (by unfold I64; omega)).mono ?_
  rintro e w8 ⟨a3, k3, c3, rfl, ho3, hg2, hg8⟩
  rw [hx2] at hg2 ho3
  have hW := hW.grown hg8 hW.size (fun k hk => by cases hk; omega)
  have t3 : (k3 : Int) = 0 := by have := ho3.rd.len; simp at this; omega
  go_wp2_with fail
  refine (err_any hg2).mono ?_
  rintro e w9 ⟨rfl, rfl⟩
  go_wp2_with fail
  refine (num_any (most := 5) hg2 (by unfold U64; omega)).mono ?_
  rintro e w10 ⟨rfl, hg2, hg10⟩
  have hx3 : numR 5 (l2, 4) = ((l2, 4), 0) := by unfold numR; simp
  rw [hx3] at hg2 ⊢
  have hW := hW.grown hg10 hW.size (fun k hk => by cases hk; omega)
  go_wp2_with fail
  refine (end_any hg2).mono ?_
  rintro e w11 ⟨rfl, rfl⟩
  have hx4 : endR (l2, 4) = 4 := by unfold endR; simp
  rw [hx4]
  go_wp2_with fail
  go_ret
  exact ⟨rfl, hW⟩

theorem cut_walk : LawWalk 8 Try.f8.params.toList := by
  intro W args h
  obtain ⟨v0, v1, v2, rfl, h0, h1, h2⟩ := argsOk3 h
  obtain ⟨n, rfl, hn⟩ := one_u64 Try.underlying23 h0
  obtain ⟨bo, bn, bc, bs, rfl, hB, hb, _⟩ := one_by h1
  obtain ⟨z, rfl, _⟩ := one_i64 Try.underlying3 h2
  exact cut_any hn hB hb

set_option maxRecDepth 100000 in
theorem octetCut_lifted (os : Os) (started : os.Started) (H : Type) (enc : TypeId × Value → H) :
    ReturnsInHanded {} Try.checked os 8 .any (Rows.octetCutSpec.pre6 enc Try.prog Try.f8 Rows.octetCutRow.domain false) (Rows.octetCutSpec.post enc Try.prog Try.f8 false true false false) :=
  law_lifted Try.func8 rfl rfl (by decide +kernel) (fun H ds h => by match ds, h with | [_, _, _], _ => rfl) (by kernel_rfl) os started H enc
    (ChangeSpec.witness6 (enc := enc) (C := Try.checked) false ⟨#[], #[.int .u64 0, .slice none 0 0, .int .i64 0], []⟩ 8 (by kernel_rfl) (by kernel_rfl) (by kernel_rfl) (by kernel_rfl)) cut_walk

theorem octetCut_proved : Rows.OctetCutSaid :=
  OpenClaim.holds_of_wide 8 Try.f8 rfl rfl rfl rfl rfl rfl rfl ⟨rfl, rfl, rfl, rfl, rfl⟩ rfl rfl rfl rfl rfl (by kernel_rfl) Try.func8 (by kernel_rfl)
    (of_decide_eq_true (by kernel_rfl)) (by unfold Func.isWrapper; first | (rw [if_pos (by decide +kernel)]; kernel_rfl) | (rw [if_neg (by decide +kernel)]; exact ⟨rfl, rfl⟩))
    (fun os started H enc _ => octetCut_lifted os started H enc)
#print axioms octetCut_proved
end Go.Proofs.Ytpnliafjiookpaa
