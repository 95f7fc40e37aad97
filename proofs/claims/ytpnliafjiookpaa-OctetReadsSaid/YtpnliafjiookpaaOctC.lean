/- What more functions of the layer octet and of its document's answer do, each by its walk. -/
import Derived.Test.YtpnliafjiookpaaOctB
namespace Go.Proofs.Ytpnliafjiookpaa
open Go.RowKit

theorem ret_int {k : IntKind} {a b : Int} (h : a = b) : Ending.returned (.int k a) = .returned (.int k b) := by rw [h]
theorem ret_bool {a b : Bool} (h : a = b) : Ending.returned (.bool a) = .returned (.bool b) := by rw [h]

set_option maxRecDepth 100000 in
set_option maxHeartbeats 400000 in
theorem same_any {ao bo : Option Addr} {n m c d : Nat} {xs ys : List UInt8} {w : World} (hx : RdB w ao n c xs) (hy : RdB w bo m d ys) (hn : n ≤ 140737488355328) (hm : m ≤ 140737488355328) :
    Calls Try.prog 17 #[.slice ao n c, .slice bo m d] w fun e w' => e = .returned (.bool (decide (xs = ys))) ∧ ∃ k, w' = w.drewN k := by
  by_cases hl : (n : Int) = m
  · have hl' : n = m := by omega
    subst hl'
    have hne : ((n : Int) != n) = false := by simp
    clear hl
    go_enter Try.func17, Try.ntmps17
    go_wp2
    go_loopw [5] (fun i wr => ∃ k : Nat, k ≤ n ∧ i = .int .i64 k ∧ (∀ j, j < k → bt xs j = bt ys j) ∧ ∃ q, wr = w.drewN q) (fun i _ => n - (intOf i).toNat)
    case atStart => exact ⟨0, Nat.zero_le _, rfl, fun j h => by omega, 0, rfl⟩
    case round =>
      obtain ⟨k, hk, rfl, he, q, rfl⟩ := hrel
      have HE := hide he
      clear he
      by_cases hlt : k < n
      · obtain ⟨b1, o1, rfl, h1⟩ := hx.byte k hlt
        obtain ⟨b2, o2, rfl, h2⟩ := hy.byte k hlt
        go_wp2
        go_quiet (fail)
        go_wp2
        · go_ret
          have hne : (bt xs k : Int) ≠ bt ys k := by have h : ((bt xs k : Int) != bt ys k) = true := by assumption
                                                     simpa using h
          refine ⟨ret_bool ?_, q + nq, by rw [World.drewN_drewN]⟩
          refine (decide_eq_false fun h => hne ?_).symm
          rw [h]
        · have hne : bt xs k = bt ys k := by have h : ((bt xs k : Int) != bt ys k) = false := by assumption
                                             simp at h; omega
          go_roundw
          case rel => exact ⟨k + 1, by omega, by go_num, fun j hj => by rcases Nat.lt_or_eq_of_le (Nat.le_of_lt_succ hj) with h | rfl; exact HE.out j h; exact hne, _, rfl⟩
          case measure => simp [intOf]; omega
      · go_wp2
        go_ret
        refine ⟨ret_bool (decide_eq_true ?_).symm, _, rfl⟩
        exact bt_ext (hx.len.trans hy.len.symm) fun j hj => HE.out j (by have := hx.len; omega)
  · have hne : ((n : Int) != m) = true := by simpa using hl
    have HL := hide hl
    clear hl
    go_enter Try.func17, Try.ntmps17
    go_wp2
    go_ret
    refine ⟨ret_bool (decide_eq_false fun h => ?_).symm, 0, rfl⟩
    have h1 := hx.len
    have h2 := hy.len
    rw [h] at h1
    exact HL.out (by omega)

theorem same_yes {ao bo : Option Addr} {n m c d : Nat} {xs ys : List UInt8} {w : World} (hx : RdB w ao n c xs) (hy : RdB w bo m d ys) (he : xs = ys) (hn : n ≤ 140737488355328) :
    Calls Try.prog 17 #[.slice ao n c, .slice bo m d] w fun e w' => e = .returned (.bool true) ∧ Below w.heap.size w w' := by
  have hm : m ≤ 140737488355328 := by rw [← hy.len, ← he, hx.len]; exact hn
  refine (same_any hx hy hn hm).mono fun e w' ⟨h1, k, h2⟩ => ⟨by rw [h1, decide_eq_true he], ?_⟩
  rw [h2]
  exact below_drewN (Below.refl _ _) k

theorem xor_ones (a : Nat) (h : a < 18446744073709551616) : a ^^^ 18446744073709551615 = 18446744073709551615 - a := by
  have e : 18446744073709551615 - a = 2 ^ 64 - (a + 1) := by omega
  have e1 : (18446744073709551615 : Nat) = 2 ^ 64 - 1 := by decide
  rw [e, e1]
  refine Nat.eq_of_testBit_eq fun i => ?_
  rw [Nat.testBit_xor, Nat.testBit_two_pow_sub_one, Nat.testBit_two_pow_sub_succ h]
  by_cases hi : i < 64
  · simp [hi]
  · have : a.testBit i = false := Nat.testBit_lt_two_pow (Nat.lt_of_lt_of_le h (by
      have : 2 ^ 64 ≤ 2 ^ i := Nat.pow_le_pow_right (by decide) (by omega)
      simpa using this))
    simp [hi, this]

theorem turn_plain {n : Int} (hn : I64 n) : bits BinOp.xor IntKind.u64 (IntKind.u64.wrap (IntKind.u64.wrap n * 2)) (IntKind.u64.wrap (n / 9223372036854775808)) = (fold n : Int) := by
  unfold I64 at hn
  unfold fold
  rw [IntKind.wrap_u64, IntKind.wrap_u64, IntKind.wrap_u64]
  by_cases h0 : 0 ≤ n
  · have e1 : (n % 18446744073709551616 * 2) % 18446744073709551616 = ((2 * n.toNat : Nat) : Int) := by omega
    have e2 : (n / 9223372036854775808) % 18446744073709551616 = ((0 : Nat) : Int) := by omega
    rw [e1, e2, bits_xor_u64_nat _ _ (by omega) (by omega), if_pos h0, Nat.xor_zero]
  · have e1 : (n % 18446744073709551616 * 2) % 18446744073709551616 = ((18446744073709551616 - 2 * (-n).toNat : Nat) : Int) := by omega
    have e2 : (n / 9223372036854775808) % 18446744073709551616 = ((18446744073709551615 : Nat) : Int) := by omega
    rw [e1, e2, bits_xor_u64_nat _ _ (by omega) (by omega), if_neg h0, xor_ones _ (by omega)]
    omega

theorem rfold_pos {n : Int} (hn : I64 n) (h0 : 0 ≤ n) : IntKind.u64.wrap (2 * IntKind.u64.wrap n) = (fold n : Int) := by
  unfold I64 at hn
  unfold fold
  rw [IntKind.wrap_u64, IntKind.wrap_u64, if_pos h0]
  omega

theorem rfold_neg {n : Int} (hn : I64 n) (h0 : n < 0) : IntKind.u64.wrap (IntKind.u64.wrap (2 * IntKind.u64.wrap (wrap64 (-wrap64 (n + 1)))) + 1) = (fold n : Int) := by
  unfold I64 at hn
  unfold fold wrap64
  rw [IntKind.wrap_u64, IntKind.wrap_u64, IntKind.wrap_u64, if_neg (by omega)]
  omega

set_option maxRecDepth 100000 in
set_option maxHeartbeats 400000 in
theorem turn_any {n : Int} {w : World} (hn : I64 n) :
    Calls Try.prog 34 #[.int .i64 n] w fun e w' => e = .returned (.int .u64 (fold n)) ∧ w = w' := by
  go_enter Try.func34, Try.ntmps34
  go_wp2
  go_ret
  exact ⟨ret_int (turn_plain hn), rfl⟩

set_option maxRecDepth 100000 in
set_option maxHeartbeats 400000 in
theorem rfold_any {n : Int} {w : World} (hn : I64 n) :
    Calls Try.prog 19 #[.int .i64 n] w fun e w' => e = .returned (.int .u64 (fold n)) ∧ w = w' := by
  by_cases h0 : 0 ≤ n
  · go_enter Try.func19, Try.ntmps19
    go_wp2
    go_ret
    exact ⟨ret_int (rfold_pos hn h0), rfl⟩
  · have h1 : n < 0 := by omega
    clear h0
    go_enter Try.func19, Try.ntmps19
    go_wp2
    go_ret
    exact ⟨ret_int (rfold_neg hn h1), rfl⟩

set_option maxRecDepth 100000 in
set_option maxHeartbeats 400000 in
theorem putInt_any {ao : Option Addr} {k c : Nat} {xs : List UInt8} {n : Int} {w : World} (hR : RdB w ao k c xs) (hl : k ≤ 140737488355000) (hn : I64 n) :
    Calls Try.prog 13 #[.slice ao k c, .int .i64 n] w fun e w' => ∃ ao' k' c', e = .returned (.slice ao' k' c') ∧ OwnB w' w.heap.size ao' k' c' (xs ++ num (fold n)) ∧ Below w.heap.size w w' ∧ k' ≤ k + 10 ∧ k < k' := by
  go_enter Try.func13, Try.ntmps13
  go_wp2_with (first | (go_at_call 34; refine (turn_any hn).mono ?_; rintro e w1 ⟨rfl, rfl⟩) | (go_at_call 12; refine (putNum_any hR (by omega) (fold_u64 hn)).mono ?_; rintro e w1 ⟨ao1, k1, c1, rfl, ho, hb, h1, h2⟩))
  go_ret
  exact ⟨ao1, k1, c1, rfl, ho, hb, h1, h2⟩

set_option maxRecDepth 100000 in
set_option maxHeartbeats 400000 in
theorem putBytes_any {ao bo : Option Addr} {k c n d : Nat} {xs ys : List UInt8} {w : World} (hR : RdB w ao k c xs) (hS : RdB w bo n d ys) (hl : k + n ≤ 140737488355000) :
    Calls Try.prog 14 #[.slice ao k c, .slice bo n d] w fun e w' => ∃ ao' k' c', e = .returned (.slice ao' k' c') ∧ OwnB w' w.heap.size ao' k' c' (xs ++ num n ++ ys) ∧ Below w.heap.size w w' ∧ k' ≤ k + 10 + n ∧ k + n < k' := by
  go_enter Try.func14, Try.ntmps14
  go_wp2_with (first | (go_at_call 12; refine (putNum_any hR (by omega) (u64_of (by omega))).mono ?_; rintro e w1 ⟨ao1, k1, c1, rfl, ho, hb, h1, h2⟩) | (at_builtin; refine wpList_app byteE_ok sT8 rfl (.tmp 9) (.tmp 10) rfl rfl ho rfl (hS.below hb) ?_ ?_ ?_ ?_))
  · omega
  · unfold maxLen; omega
  · exact hb.size
  · intro ao' cap' w' ho' hg _
    go_wp2
    go_ret
    exact ⟨ao', _, cap', rfl, by simpa using ho', ho.frame hb hg, by omega, by omega⟩

set_option maxRecDepth 100000 in
set_option maxHeartbeats 400000 in
theorem putText_any {ao : Option Addr} {k c : Nat} {xs : List UInt8} {s : ByteArray} {w : World} (hR : RdB w ao k c xs) (hl : k + s.size ≤ 140737488355000) :
    Calls Try.prog 15 #[.slice ao k c, .string s] w fun e w' => ∃ ao' k' c', e = .returned (.slice ao' k' c') ∧ OwnB w' w.heap.size ao' k' c' (xs ++ num s.size ++ s.data.toList) ∧ Below w.heap.size w w' ∧ k' ≤ k + 10 + s.size ∧ k + s.size < k' := by
  go_enter Try.func15, Try.ntmps15
  go_wp2_with (go_at_call 14; refine (putBytes_any (hR.below (strW_below w s)) (strW_rd w s) (by omega)).mono ?_; rintro e w1 ⟨ao1, k1, c1, rfl, ho, hb, h1, h2⟩)
  go_ret
  exact ⟨ao1, k1, c1, rfl, ho.mono (strW_below w s).size, below_trans (strW_below w s) hb, h1, h2⟩

set_option maxRecDepth 100000 in
set_option maxHeartbeats 400000 in
theorem rnum_any {n : Nat} {w : World} (hn : U64 n) :
    Calls Try.prog 18 #[.int .u64 n] w fun e w' => ∃ ao' k' c', e = .returned (.slice ao' k' c') ∧ OwnB w' w.heap.size ao' k' c' (num n) ∧ Below w.heap.size w w' ∧ k' ≤ 10 ∧ 0 < k' := by
  go_enter Try.func18, Try.ntmps18
  go_wp2
  go_loopw [0, 3] (fun i v wr => ∃ (f m : Nat) (pre : List UInt8) (a1 : Option Addr) (k1 c1 : Nat), PutSt n f m pre ∧ i = .int .u64 m ∧ v = .slice a1 k1 c1 ∧
      OwnB wr w.heap.size a1 k1 c1 pre ∧ Below w.heap.size w wr) (fun i _ _ => (intOf i).toNat)
  case atStart => exact ⟨10, n, [], none, 0, 0, PutSt.start hn, rfl, rfl, OwnS.nilRow _ _, Below.refl _ _⟩
  case round =>
    obtain ⟨f, m, pre, a1, k1, c1, hst, rfl, rfl, hown, hbl⟩ := hrel
    have hpl := hst.len
    have h1 : k1 ≤ 9 := by have := hown.len; omega
    have hm0 : (m : Int) ≤ 18446744073709551615 := by have := hst.2.2.2.2.2; unfold U64 at this; omega
    have hsz := hbl.size
    by_cases hlt : m < 128
    · go_wp2_with (at_builtin; refine wpList_app1 byteE_ok sT8 rfl (.tmp 15) (.tmp 18) rfl rfl hown (UInt8.ofNat m) rfl ?_ ?_ ?_ ?_ ?_)
      · simp [byteE]; omega
      · omega
      · unfold maxLen; omega
      · omega
      · intro ao' c' w' ho' hg _
        go_wp2
        go_ret
        exact ⟨ao', _, c', rfl, by rw [hst.last hlt]; simpa using ho', hown.frame hbl hg, by omega, by omega⟩
    · go_wp2_with (at_builtin; refine wpList_app1 byteE_ok sT8 rfl (.tmp 6) (.tmp 11) rfl rfl hown (septet m) rfl ?_ ?_ ?_ ?_ ?_)
      · simp [byteE, septet_toNat]; omega
      · omega
      · unfold maxLen; omega
      · omega
      · intro ao' c' w' ho' hg _
        go_wp2
        go_roundw
        case rel => exact ⟨f - 1, m / 128, _, ao', _, c', hst.more hlt, by go_num, rfl, by simpa using ho', hown.frame hbl hg⟩
        case measure => simp [intOf]; omega

set_option maxRecDepth 100000 in
set_option maxHeartbeats 400000 in
theorem rbytes_any {bo : Option Addr} {n d : Nat} {ys : List UInt8} {w : World} (hS : RdB w bo n d ys) (hl : n ≤ 140737488355000) :
    Calls Try.prog 20 #[.slice bo n d] w fun e w' => ∃ ao' k' c', e = .returned (.slice ao' k' c') ∧ OwnB w' w.heap.size ao' k' c' (num n ++ ys) ∧ Below w.heap.size w w' ∧ k' ≤ 10 + n ∧ n < k' := by
  go_enter Try.func20, Try.ntmps20
  go_wp2_with (first | (go_at_call 18; refine (rnum_any (u64_of (by omega))).mono ?_; rintro e w1 ⟨ao1, k1, c1, rfl, ho, hb, h1, h2⟩) | (at_builtin; refine wpList_app byteE_ok sT8 rfl (.tmp 6) (.tmp 7) rfl rfl ho rfl (hS.below hb) ?_ ?_ ?_ ?_))
  · omega
  · unfold maxLen; omega
  · exact hb.size
  · intro ao' cap' w' ho' hg _
    go_wp2
    go_ret
    exact ⟨ao', _, cap', rfl, by simpa using ho', ho.frame hb hg, by omega, by omega⟩
end Go.Proofs.Ytpnliafjiookpaa
