/- What the reader of the layer octet does, each function by its walk. -/
import Derived.Test.YtpnliafjiookpaaOctK
import Derived.Test.YtpnliafjiookpaaRdA
import Derived.WalkMore
namespace Go.Proofs.Ytpnliafjiookpaa
open Go.RowKit

/-- How many bits a byte needs. -/
def len8 (y : Nat) : Nat := if y = 0 then 0 else Nat.log2 y + 1

def len8Table : ByteArray := { data := #[0, 1, 2, 2, 3, 3, 3, 3, 4, 4, 4, 4, 4, 4, 4, 4, 5, 5, 5, 5, 5, 5, 5, 5, 5, 5, 5, 5, 5, 5, 5, 5, 6, 6, 6, 6, 6, 6, 6, 6, 6, 6, 6, 6, 6, 6, 6, 6, 6, 6, 6, 6, 6, 6, 6, 6, 6, 6, 6, 6, 6, 6, 6, 6, 7, 7, 7, 7, 7, 7, 7, 7, 7, 7, 7, 7, 7, 7, 7, 7, 7, 7, 7, 7, 7, 7, 7, 7, 7, 7, 7, 7, 7, 7, 7, 7, 7, 7, 7, 7, 7, 7, 7, 7, 7, 7, 7, 7, 7, 7, 7, 7, 7, 7, 7, 7, 7, 7, 7, 7, 7, 7, 7, 7, 7, 7, 7, 7, 8, 8, 8, 8, 8, 8, 8, 8, 8, 8, 8, 8, 8, 8, 8, 8, 8, 8, 8, 8, 8, 8, 8, 8, 8, 8, 8, 8, 8, 8, 8, 8, 8, 8, 8, 8, 8, 8, 8, 8, 8, 8, 8, 8, 8, 8, 8, 8, 8, 8, 8, 8, 8, 8, 8, 8, 8, 8, 8, 8, 8, 8, 8, 8, 8, 8, 8, 8, 8, 8, 8, 8, 8, 8, 8, 8, 8, 8, 8, 8, 8, 8, 8, 8, 8, 8, 8, 8, 8, 8, 8, 8, 8, 8, 8, 8, 8, 8, 8, 8, 8, 8, 8, 8, 8, 8, 8, 8, 8, 8, 8, 8, 8, 8, 8, 8, 8, 8, 8, 8, 8, 8, 8, 8, 8, 8, 8, 8] }

theorem len8_size : len8Table.size = 256 := by decide +kernel

theorem len8_tab0 : ∀ y : Fin 256, wrap64 ((len8Table[y.1]'(by rw [len8_size]; exact y.2)).toNat : Int) = (len8 y.1 : Int) := by decide +kernel

theorem len8_tab (y : Nat) (h : y < 256) : wrap64 ((len8Table[y]'(by rw [len8_size]; exact h)).toNat : Int) = (len8 y : Int) := len8_tab0 ⟨y, h⟩

theorem and127 {x : Nat} (h : x < 256) : bits .and .u8 (x : Int) 127 = ((x % 128 : Nat) : Int) := by
  have key : ∀ x : Fin 256, bits .and .u8 (x.1 : Int) 127 = ((x.1 % 128 : Nat) : Int) := by decide +kernel
  exact key ⟨x, h⟩

theorem len8_big {y : Nat} (h : 2 ≤ y) : 2 ≤ len8 y := by
  unfold len8
  rw [if_neg (by omega)]
  have : 1 ≤ Nat.log2 y := (Nat.le_log2 (by omega)).2 (by omega)
  omega

theorem len8_small {y : Nat} (h : y < 2) : len8 y ≤ 1 := by
  have : y = 0 ∨ y = 1 := by omega
  rcases this with rfl | rfl <;> decide

theorem len8_le {y : Nat} (h : y < 128) : len8 y ≤ 7 := by
  unfold len8
  split
  · omega
  · have : Nat.log2 y < 7 := (Nat.log2_lt (by omega)).2 (by omega)
    omega

set_option maxRecDepth 100000 in
set_option maxHeartbeats 400000 in
theorem len8_any {y : Nat} {w : World} (hy : y < 256) :
    Calls Try.prog 42 #[.int .u8 y] w fun e w' => e = .returned (.int .i64 (len8 y)) ∧ w = w' := by
  go_enter Try.func42, Try.ntmps42
  go_wp2
  go_ret
  exact ⟨ret_int (len8_tab y hy), rfl⟩

theorem or_shift {m y k : Nat} (hm : m < 128 ^ k) (hb : m + y * 128 ^ k < 18446744073709551616) : bits .or .u64 (m : Int) (IntKind.u64.wrap ((y : Int) * 2 ^ (7 * k))) = ((m + y * 128 ^ k : Nat) : Int) := by
  have e : 128 ^ k = 2 ^ (7 * k) := by rw [show (128 : Nat) = 2 ^ 7 by decide, ← Nat.pow_mul]
  rw [e] at hm hb ⊢
  have e2 : (y : Int) * 2 ^ (7 * k) = ((y * 2 ^ (7 * k) : Nat) : Int) := by simp
  rw [e2, IntWalk.u64_in _ ⟨by omega, by omega⟩, bits_or_u64_nat _ _ (by omega) (by omega), Nat.or_comm, Nat.mul_comm, ← Nat.two_pow_add_eq_or_of_lt hm]
  congr 1
  omega

theorem ret3_eq {a a' b b' c c' : Int} (h1 : a = a') (h2 : b = b') (h3 : c = c') : Ending.returned (.tuple #[.int .u64 a, .int .i64 b, .int .i64 c]) = Ending.returned (.tuple #[.int .u64 a', .int .i64 b', .int .i64 c']) := by rw [h1, h2, h3]

theorem fin3 {xs : List UInt8} {a b c : Nat} (h : parse xs = (a, b, c)) : Ending.returned (.tuple #[.int .u64 a, .int .i64 b, .int .i64 c]) = Ending.returned (.tuple #[.int .u64 (parse xs).1, .int .i64 (parse xs).2.1, .int .i64 (parse xs).2.2]) := by rw [h]

set_option maxRecDepth 100000 in
set_option maxHeartbeats 1000000 in
theorem number_any {ao : Option Addr} {n c : Nat} {xs : List UInt8} {w : World} (hR : RdB w ao n c xs) (hl : n ≤ 140737488355328) :
    Calls Try.prog 38 #[.slice ao n c] w fun e w' => e = .returned (.tuple #[.int .u64 (parse xs).1, .int .i64 (parse xs).2.1, .int .i64 (parse xs).2.2]) ∧ w = w' := by
  go_enter Try.func38, Try.ntmps38
  go_wp2_with fail
  go_step3
  go_wp2_with fail
  go_step3
  go_wp2_with fail
  go_loopw [5, 10] (fun a i wr => ∃ k m : Nat, ParseSt xs k m ∧ a = .int .u64 m ∧ i = .int .i64 k ∧ wr = w) (fun _ i _ => n - (intOf i).toNat)
  case atStart => exact ⟨0, 0, ParseSt.start xs, rfl, rfl, rfl⟩
  case round =>
    obtain ⟨k, m, hst, rfl, rfl, rfl⟩ := hrel
    have hk1 : k ≤ n := by have := hst.1; have := hR.len; omega
    have hk2 : k ≤ 10 := hst.2.1
    by_cases hlt : k < n
    · obtain ⟨b, o, rfl, hc⟩ := hR.byte k hlt
      have hb := bt_lt xs k
      have ha := and127 hb
      have hx := bt_some (l := xs) (k := k) (by rw [hR.len]; exact hlt)
      have hxb : (UInt8.ofNat (bt xs k)).toNat = bt xs k := by simp; omega
      by_cases h10 : k = 10
      · subst h10
        have HF := hide (hst.ten hx)
        go_wp2_with fail
        rw [Exit.noGoto_ret]
        go_ret3
        exact ⟨fin3 HF.out, rfl⟩
      have h10' : ((k : Int) == 10) = false := by simp; omega
      have h9 : k ≤ 9 := by omega
      clear h10
      by_cases hA : bt xs k = 0 ∧ 0 < k
      · have HF := hide (hst.zero hx h9 (by rw [hxb]; exact hA.1) hA.2)
        obtain ⟨hA1, hA2⟩ := hA
        have hA3 : ((bt xs k : Int) == 0) = true := by simp [hA1]
        have hA4 : (bt xs k : Int) < 128 := by omega
        clear hA1 hx hxb
        go_wp2_with fail
        rw [Exit.noGoto_ret]
        go_ret3
        exact ⟨fin3 HF.out, rfl⟩
      have hA1 : ((bt xs k : Int) == 0) = true → ¬ 0 < k := fun h h' => hA ⟨by simpa using h, h'⟩
      have hy : bt xs k % 128 < 128 := Nat.mod_lt _ (by decide)
      have HX := hide (And.intro hx hxb)
      clear hx hxb
      have HA := hide hA
      clear hA
      generalize hyd : bt xs k % 128 = y at ha hy
      have HY := hide hyd
      clear hyd
      have hlen := len8_le hy
      by_cases hB : k = 9 ∧ 2 ≤ y
      · have HF := hide (hst.big HX.out.1 hB.1 (by rw [HX.out.2, HY.out]; exact hB.2))
        obtain ⟨hB1, hB2⟩ := hB
        have hl2 := len8_big hB2
        have hkk : 9 ≤ k := by omega
        clear hB1
        have hA2 : ((bt xs k : Int) == 0) = false := by
          cases h : ((bt xs k : Int) == 0)
          · rfl
          · exact absurd (hA1 h) (by omega)
        clear hA1
        by_cases hlo : bt xs k < 128
        all_goals
          go_wp2_with fail
          refine (len8_any (y := y) (by omega)).mono ?_
          rintro e w1 ⟨rfl, rfl⟩
          go_wp2_with fail
          rw [Exit.noGoto_ret]
          go_ret3
          exact ⟨fin3 HF.out, rfl⟩
      have HB := hide hB
      have hC : len8 y + 7 * k ≤ 64 := by
        by_cases h9' : k = 9
        · have := len8_small (y := y) (by omega)
          omega
        · omega
      clear hB
      have hsum := hst.bound (y := y) h9 hy HB.out
      have hor := or_shift (k := k) (y := y) hst.2.2.1 hsum.1
      have hs1 : ((m + y * 128 ^ k : Nat) : Int) ≤ 18446744073709551615 := by omega
      have key : (bt xs k < 128 → parse xs = (m + y * 128 ^ k, k + 1, 0)) ∧ (¬ bt xs k < 128 → ParseSt xs (k + 1) (m + y * 128 ^ k)) := by
        refine ⟨fun hlo => ?_, fun hlo => ?_⟩
        · rw [← HY.out, ← HX.out.2]
          rw [← HY.out, ← HX.out.2] at HB
          rw [← HX.out.2] at HA hlo
          exact hst.last HX.out.1 h9 HA.out HB.out hlo
        · rw [← HY.out, ← HX.out.2]
          rw [← HY.out, ← HX.out.2] at HB
          rw [← HX.out.2] at HA hlo
          exact hst.more HX.out.1 h9 HA.out HB.out hlo
      generalize m + y * 128 ^ k = s at *
      have HK := hide key
      clear key
      by_cases hlo : bt xs k < 128
      · have hA2 : (((bt xs k : Int) == 0) = true ∧ ¬ 0 < k) ∨ ((bt xs k : Int) == 0) = false := by
          cases h : ((bt xs k : Int) == 0)
          · exact .inr rfl
          · exact .inl ⟨rfl, hA1 h⟩
        clear hA1
        rcases hA2 with ⟨h1, h2⟩ | h1
        all_goals
          go_wp2_with fail
          refine (len8_any (y := y) (by omega)).mono ?_
          rintro e w1 ⟨rfl, rfl⟩
          go_wp2_with fail
          rw [Exit.noGoto_ret]
          go_ret3
          exact ⟨(ret3_eq rfl (by simp) rfl).trans (fin3 (HK.out.1 hlo)), rfl⟩
      · have hA2 : ((bt xs k : Int) == 0) = false := by
          cases h : ((bt xs k : Int) == 0)
          · rfl
          · simp at h; omega
        clear hA1
        go_wp2_with fail
        refine (len8_any (y := y) (by omega)).mono ?_
        rintro e w1 ⟨rfl, rfl⟩
        go_wp2_with fail
        go_roundw
        case rel => exact ⟨k + 1, s, HK.out.2 hlo, rfl, by go_num, trivial⟩
        case measure => simp [intOf]; omega
    · have HF := hide (hst.ends (by rw [hR.len]; omega))
      by_cases h10 : n < 10
      · go_wp2_with fail
        rw [Exit.noGoto_ret]
        go_ret3
        exact ⟨fin3 (HF.out.trans (if_pos (by rw [hR.len]; exact h10))), rfl⟩
      · go_wp2_with fail
        rw [Exit.noGoto_ret]
        go_ret3
        exact ⟨fin3 (HF.out.trans (if_neg (by rw [hR.len]; exact h10))), rfl⟩
end Go.Proofs.Ytpnliafjiookpaa
