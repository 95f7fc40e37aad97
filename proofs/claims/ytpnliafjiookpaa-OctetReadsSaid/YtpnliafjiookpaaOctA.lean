/- The plain answers of the layer octet: a number's bytes. -/
namespace Go.Proofs.Ytpnliafjiookpaa

/-- A byte of a number behind which another one stands. -/
def septet (n : Nat) : UInt8 := UInt8.ofNat (n % 128 + 128)

theorem septet_toNat (n : Nat) : (septet n).toNat = n % 128 + 128 := by
  unfold septet; simp; omega

/-- A number's bytes, of at most f. -/
def numF : Nat → Nat → List UInt8
  | 0, _ => []
  | f + 1, n => if n < 128 then [UInt8.ofNat n] else septet n :: numF f (n / 128)

/-- A number's bytes (below 2 to the 64). -/
def num (n : Nat) : List UInt8 := numF 10 n

theorem numF_len (f n : Nat) : (numF f n).length ≤ f := by
  induction f generalizing n with
  | zero => simp [numF]
  | succ f ih =>
    unfold numF
    split
    · simp
    · have := ih (n / 128); simp; omega

theorem num_len (n : Nat) : (num n).length ≤ 10 := numF_len 10 n

theorem numF_last {f n : Nat} (hf : 0 < f) (h : n < 128) : numF f n = [UInt8.ofNat n] := by
  match f, hf with
  | f + 1, _ => rw [numF, if_pos h]

theorem numF_more {f n : Nat} (h : ¬ n < 128) : numF (f + 1) n = septet n :: numF f (n / 128) := by
  rw [numF, if_neg h]

/-- A number below 2 to the 64. -/
def U64 (n : Nat) : Prop := n < 18446744073709551616

/-- Where PutNum stands: f rounds at most are to come. -/
def PutSt (n f m : Nat) (pre : List UInt8) : Prop := f ≤ 10 ∧ 0 < f ∧ pre.length + f = 10 ∧ m < 128 ^ f ∧ num n = pre ++ numF f m ∧ U64 m

theorem PutSt.start {n : Nat} (h : U64 n) : PutSt n 10 n [] := by
  refine ⟨by omega, by omega, rfl, ?_, rfl, h⟩
  unfold U64 at h; omega

theorem PutSt.last {n f m : Nat} {pre : List UInt8} (h : PutSt n f m pre) (hm : m < 128) : num n = pre ++ [UInt8.ofNat m] := by
  obtain ⟨_, h0, _, _, e, _⟩ := h
  rw [e, numF_last h0 hm]

theorem PutSt.more {n f m : Nat} {pre : List UInt8} (h : PutSt n f m pre) (hm : ¬ m < 128) : PutSt n (f - 1) (m / 128) (pre ++ [septet m]) := by
  obtain ⟨h1, h2, h3, h4, e, h5⟩ := h
  obtain ⟨g, rfl⟩ : ∃ g, f = g + 1 := ⟨f - 1, by omega⟩
  have h0 : 0 < g := by
    rcases Nat.eq_zero_or_pos g with rfl | h
    · simp at h4; omega
    · exact h
  refine ⟨by omega, by omega, by simp; omega, ?_, ?_, ?_⟩
  · rw [Nat.pow_succ] at h4
    rw [Nat.add_sub_cancel]
    exact Nat.div_lt_of_lt_mul (by omega)
  · rw [e, numF_more hm, Nat.add_sub_cancel]; simp
  · unfold U64 at *; omega

theorem PutSt.len {n f m : Nat} {pre : List UInt8} (h : PutSt n f m pre) : pre.length < 10 := by
  obtain ⟨_, h0, h1, _⟩ := h
  omega

/-- A number of 64 bits with a sign. -/
def I64 (n : Int) : Prop := -9223372036854775808 ≤ n ∧ n < 9223372036854775808

/-- The number that tells one with a sign. -/
def fold (n : Int) : Nat := if 0 ≤ n then 2 * n.toNat else 2 * (-n).toNat - 1

theorem fold_u64 {n : Int} (h : I64 n) : U64 (fold n) := by
  unfold I64 at h; unfold U64 fold; split <;> omega

theorem u64_of {n : Nat} (h : n ≤ 9223372036854775807) : U64 n := by unfold U64; omega

end Go.Proofs.Ytpnliafjiookpaa
