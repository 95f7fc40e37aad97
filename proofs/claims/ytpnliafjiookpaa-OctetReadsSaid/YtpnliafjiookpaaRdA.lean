/- The plain answers of the reader of the layer octet. -/
import Derived.Test.YtpnliafjiookpaaOctA
namespace Go.Proofs.Ytpnliafjiookpaa

/-- The number that bytes begin with: it, how many bytes it has, the error's number. i bytes were read, which tell n. -/
def parseF (i n : Nat) : List UInt8 → Nat × Nat × Nat
  | [] => if i < 10 then (0, 0, 4) else (0, 0, 3)
  | x :: l => if i = 10 then (0, 0, 3) else if x.toNat = 0 ∧ 0 < i then (0, 0, 3) else if i = 9 ∧ 2 ≤ x.toNat % 128 then (0, 0, 3) else
    if x.toNat < 128 then (n + x.toNat % 128 * 128 ^ i, i + 1, 0) else parseF (i + 1) (n + x.toNat % 128 * 128 ^ i) l

def parse (l : List UInt8) : Nat × Nat × Nat := parseF 0 0 l

/-- Either an error, or a number of 64 bits, and how many bytes it has. -/
theorem parseF_ok (l : List UInt8) : ∀ i n, n < 128 ^ i → i ≤ 10 → (i = 10 → n < 18446744073709551616) →
    ((parseF i n l).2.2 ≠ 0 ∧ (parseF i n l).1 = 0 ∧ (parseF i n l).2.1 = 0 ∧ (parseF i n l).2.2 ≤ 4) ∨ ((parseF i n l).2.2 = 0 ∧ (parseF i n l).1 < 18446744073709551616 ∧ i < (parseF i n l).2.1 ∧ (parseF i n l).2.1 ≤ i + l.length ∧ (parseF i n l).2.1 ≤ 10) := by
  induction l with
  | nil => intro i n _ _ _; unfold parseF; split <;> simp
  | cons x l ih =>
    intro i n hn hi h10
    unfold parseF
    by_cases h1 : i = 10
    · rw [if_pos h1]; simp
    rw [if_neg h1]
    by_cases h2 : x.toNat = 0 ∧ 0 < i
    · rw [if_pos h2]; simp
    rw [if_neg h2]
    by_cases h3 : i = 9 ∧ 2 ≤ x.toNat % 128
    · rw [if_pos h3]; simp
    rw [if_neg h3]
    have hlt : n + x.toNat % 128 * 128 ^ i < 128 ^ (i + 1) := by
      have : x.toNat % 128 < 128 := Nat.mod_lt _ (by decide)
      have h4 : x.toNat % 128 * 128 ^ i ≤ 127 * 128 ^ i := Nat.mul_le_mul_right _ (by omega)
      rw [Nat.pow_succ]
      omega
    have hlt64 : n + x.toNat % 128 * 128 ^ i < 18446744073709551616 := by
      by_cases h9 : i = 9
      · subst h9
        have : x.toNat % 128 * 128 ^ 9 ≤ 1 * 128 ^ 9 := Nat.mul_le_mul_right _ (by omega)
        omega
      · have : 128 ^ (i + 1) ≤ 128 ^ 9 := Nat.pow_le_pow_right (by decide) (by omega)
        omega
    by_cases h5 : x.toNat < 128
    · rw [if_pos h5]
      refine .inr ⟨rfl, hlt64, by simp, by simp, by simp; omega⟩
    · rw [if_neg h5]
      have := ih (i + 1) _ hlt (by omega) (fun _ => hlt64)
      rcases this with h | ⟨h6, h7, h8, h9, h10⟩
      · exact .inl h
      · exact .inr ⟨h6, h7, by omega, by simp; omega, h10⟩

theorem parse_ok (l : List UInt8) : ((parse l).2.2 ≠ 0 ∧ (parse l).1 = 0 ∧ (parse l).2.1 = 0 ∧ (parse l).2.2 ≤ 4) ∨ ((parse l).2.2 = 0 ∧ (parse l).1 < 18446744073709551616 ∧ 0 < (parse l).2.1 ∧ (parse l).2.1 ≤ l.length ∧ (parse l).2.1 ≤ 10) := by
  have := parseF_ok l 0 0 (by decide) (by omega) (by omega)
  simpa [parse] using this

/-- Where number() stands behind i bytes, none of which was the last one. -/
def ParseSt (l : List UInt8) (i n : Nat) : Prop := i ≤ l.length ∧ i ≤ 10 ∧ n < 128 ^ i ∧ n < 18446744073709551616 ∧ parse l = parseF i n (l.drop i)

theorem ParseSt.start (l : List UInt8) : ParseSt l 0 0 := ⟨Nat.zero_le _, by omega, by decide, by omega, rfl⟩

theorem ParseSt.at {l : List UInt8} {k m : Nat} (h : ParseSt l k m) {x : UInt8} (hx : l[k]? = some x) : parse l = parseF k m (x :: l.drop (k + 1)) := by
  obtain ⟨_, _, _, _, e⟩ := h
  rw [e]
  have hlt := (List.getElem?_eq_some_iff.1 hx).1
  rw [List.drop_eq_getElem_cons hlt, (List.getElem?_eq_some_iff.1 hx).2]

theorem ParseSt.ten {l : List UInt8} {m : Nat} (h : ParseSt l 10 m) {x : UInt8} (hx : l[10]? = some x) : parse l = (0, 0, 3) := by
  rw [h.at hx, parseF, if_pos rfl]

theorem ParseSt.zero {l : List UInt8} {k m : Nat} (h : ParseSt l k m) {x : UInt8} (hx : l[k]? = some x) (h9 : k ≤ 9) (h0 : x.toNat = 0) (hk : 0 < k) : parse l = (0, 0, 3) := by
  rw [h.at hx, parseF, if_neg (by omega), if_pos ⟨h0, hk⟩]

theorem ParseSt.big {l : List UInt8} {k m : Nat} (h : ParseSt l k m) {x : UInt8} (hx : l[k]? = some x) (h9 : k = 9) (h2 : 2 ≤ x.toNat % 128) : parse l = (0, 0, 3) := by
  rw [h.at hx, parseF, if_neg (by omega)]
  split
  · rfl
  · rw [if_pos ⟨h9, h2⟩]

theorem ParseSt.last {l : List UInt8} {k m : Nat} (h : ParseSt l k m) {x : UInt8} (hx : l[k]? = some x) (h9 : k ≤ 9) (h0 : ¬ (x.toNat = 0 ∧ 0 < k)) (h2 : ¬ (k = 9 ∧ 2 ≤ x.toNat % 128)) (hl : x.toNat < 128) :
    parse l = (m + x.toNat % 128 * 128 ^ k, k + 1, 0) := by
  rw [h.at hx, parseF, if_neg (by omega), if_neg h0, if_neg h2, if_pos hl]

theorem ParseSt.bound {l : List UInt8} {k m : Nat} (h : ParseSt l k m) {y : Nat} (h9 : k ≤ 9) (hy : y < 128) (h2 : ¬ (k = 9 ∧ 2 ≤ y)) : m + y * 128 ^ k < 18446744073709551616 ∧ m + y * 128 ^ k < 128 ^ (k + 1) := by
  obtain ⟨_, _, h3, _, _⟩ := h
  have hlt : m + y * 128 ^ k < 128 ^ (k + 1) := by
    have h4 : y * 128 ^ k ≤ 127 * 128 ^ k := Nat.mul_le_mul_right _ (by omega)
    rw [Nat.pow_succ]
    omega
  refine ⟨?_, hlt⟩
  by_cases h9 : k = 9
  · subst h9
    have : y * 128 ^ 9 ≤ 1 * 128 ^ 9 := Nat.mul_le_mul_right _ (by omega)
    omega
  · have : 128 ^ (k + 1) ≤ 128 ^ 9 := Nat.pow_le_pow_right (by decide) (by omega)
    omega

theorem ParseSt.more {l : List UInt8} {k m : Nat} (h : ParseSt l k m) {x : UInt8} (hx : l[k]? = some x) (h9 : k ≤ 9) (h0 : ¬ (x.toNat = 0 ∧ 0 < k)) (h2 : ¬ (k = 9 ∧ 2 ≤ x.toNat % 128)) (hl : ¬ x.toNat < 128) :
    ParseSt l (k + 1) (m + x.toNat % 128 * 128 ^ k) := by
  have hb := h.bound h9 (Nat.mod_lt x.toNat (by decide : 0 < 128)) h2
  have e := h.at hx
  rw [parseF, if_neg (by omega), if_neg h0, if_neg h2, if_neg hl] at e
  exact ⟨(List.getElem?_eq_some_iff.1 hx).1, by omega, hb.2, hb.1, e⟩

theorem ParseSt.ends {l : List UInt8} {k m : Nat} (h : ParseSt l k m) (hk : l.length ≤ k) : parse l = if l.length < 10 then (0, 0, 4) else (0, 0, 3) := by
  obtain ⟨h1, _, _, _, e⟩ := h
  rw [e, List.drop_eq_nil_of_le hk, parseF, show k = l.length by omega]

/-- What a reader has, and its first error; a number that is not above the most. -/
def numR (most : Nat) (s : List UInt8 × Nat) : (List UInt8 × Nat) × Nat :=
  if s.2 ≠ 0 then (s, 0) else
  if (parse s.1).2.2 ≠ 0 then ((s.1, (parse s.1).2.2), 0) else
  if most < (parse s.1).1 then ((s.1, 2), 0) else ((s.1.drop (parse s.1).2.1, 0), (parse s.1).1)

/-- The number with a sign that one without tells. -/
def unf (n : Nat) : Int := if n % 2 = 0 then ((n / 2 : Nat) : Int) else -((n / 2 : Nat) : Int) - 1

theorem unf_fold {n : Int} (h : I64 n) : unf (fold n) = n := by
  unfold I64 at h
  unfold unf fold
  by_cases h0 : 0 ≤ n
  · rw [if_pos h0, if_pos (by omega)]; omega
  · rw [if_neg h0, if_neg (by omega)]; omega

theorem unf_i64 {n : Nat} (h : n < 18446744073709551616) : I64 (unf n) := by
  unfold I64 unf
  split <;> omega

/-- At most so many bytes. -/
def bytesR (most : Int) (s : List UInt8 × Nat) : (List UInt8 × Nat) × List UInt8 :=
  if s.2 ≠ 0 then (s, []) else
  if (parse s.1).2.2 ≠ 0 then ((s.1, (parse s.1).2.2), []) else
  if most.toNat < (parse s.1).1 then ((s.1, 2), []) else
  if s.1.length - (parse s.1).2.1 < (parse s.1).1 then ((s.1, 4), []) else
  ((s.1.drop ((parse s.1).2.1 + (parse s.1).1), 0), (s.1.drop (parse s.1).2.1).take (parse s.1).1)

theorem bytesR_cases {most : Int} {s : List UInt8 × Nat} (h0 : s.2 = 0) (h1 : (parse s.1).2.2 = 0) :
    (most.toNat < (parse s.1).1 → bytesR most s = ((s.1, 2), [])) ∧
    (¬ most.toNat < (parse s.1).1 → s.1.length - (parse s.1).2.1 < (parse s.1).1 → bytesR most s = ((s.1, 4), [])) ∧
    (¬ most.toNat < (parse s.1).1 → ¬ s.1.length - (parse s.1).2.1 < (parse s.1).1 → bytesR most s = ((s.1.drop ((parse s.1).2.1 + (parse s.1).1), 0), (s.1.drop (parse s.1).2.1).take (parse s.1).1)) := by
  refine ⟨fun h => ?_, fun h h' => ?_, fun h h' => ?_⟩ <;> unfold bytesR <;> rw [if_neg (by simp [h0]), if_neg (by simp [h1])]
  · rw [if_pos h]
  · rw [if_neg h, if_pos h']
  · rw [if_neg h, if_neg h']

end Go.Proofs.Ytpnliafjiookpaa
