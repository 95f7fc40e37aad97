/- Of the statement FundTurn: which seat lays at each turn: plain laws. -/
import Derived.Test.YtoeoneiopcagfaaFundG
namespace Go.Proofs.Ytoeoneiopcagfaa
open Go.RowKit

/-- Which seat lays at turn i, of n seats, from f on, backwards or not; and the turn of a seat. -/
def kF (back : Bool) (n f i : Nat) : Nat := if back then n - 1 - (f + i) % n else (f + i) % n
def jF (back : Bool) (n f s : Nat) : Nat := if back then (n - 1 - s + (n - f % n)) % n else (s + (n - f % n)) % n

theorem turn_key : ∀ (b : Bool) (n : Fin 9) (f : Fin 8) (i : Fin 8) (s : Fin 8), f.1 < n.1 → i.1 < n.1 → s.1 < n.1 → (jF b n.1 f.1 s.1 = i.1 ↔ s.1 = kF b n.1 f.1 i.1) := by decide +kernel
theorem turn_lt : ∀ (b : Bool) (n : Fin 9) (f : Fin 8) (i : Fin 8), f.1 < n.1 → i.1 < n.1 → kF b n.1 f.1 i.1 < n.1 ∧ jF b n.1 f.1 i.1 < n.1 := by decide +kernel

theorem kF_mod (b : Bool) (n f i : Nat) : kF b n f i = kF b n (f % n) i := by unfold kF; rw [Nat.add_mod f i n, Nat.add_mod (f % n) i n, Nat.mod_mod]
theorem jF_mod (b : Bool) (n f s : Nat) : jF b n f s = jF b n (f % n) s := by unfold jF; rw [Nat.mod_mod]

theorem turn_iff (b : Bool) {n f i s : Nat} (h8 : n ≤ 8) (hi : i < n) (hs : s < n) : jF b n f s = i ↔ s = kF b n f i := by
  have hf := Nat.mod_lt f (show 0 < n by omega)
  rw [kF_mod, jF_mod]
  exact turn_key b ⟨n, by omega⟩ ⟨f % n, by omega⟩ ⟨i, by omega⟩ ⟨s, by omega⟩ hf hi hs
theorem kF_lt (b : Bool) {n f i : Nat} (h8 : n ≤ 8) (hi : i < n) : kF b n f i < n := by
  have hf := Nat.mod_lt f (show 0 < n by omega)
  rw [kF_mod]
  exact (turn_lt b ⟨n, by omega⟩ ⟨f % n, by omega⟩ ⟨i, by omega⟩ hf hi).1
theorem jF_lt (b : Bool) {n f i : Nat} (h8 : n ≤ 8) (hi : i < n) : jF b n f i < n := by
  have hf := Nat.mod_lt f (show 0 < n by omega)
  rw [jF_mod]
  exact (turn_lt b ⟨n, by omega⟩ ⟨f % n, by omega⟩ ⟨i, by omega⟩ hf hi).2

/-- A fund behind i turns. -/
def turnF (b : Bool) (f : Nat) (l : List Int) (due : Int) (i : Nat) : FundX := ⟨l, due, (List.range l.length).map fun s => decide (jF b l.length f s < i)⟩

theorem turnF_zero (b : Bool) (f : Nat) (l : List Int) (due : Int) {n : Nat} (hl : l.length = n) : (⟨l, due, List.replicate n false⟩ : FundX) = turnF b f l due 0 := by
  subst hl
  unfold turnF
  congr 1
  refine List.ext_getElem (by simp) fun i h1 h2 => ?_
  simp

theorem turnF_all (b : Bool) (f : Nat) (l : List Int) (due : Int) (h8 : l.length ≤ 8) : turnF b f l due l.length = ⟨l, due, List.replicate l.length true⟩ := by
  unfold turnF
  congr 1
  refine List.ext_getElem (by simp) fun i h1 h2 => ?_
  have : i < l.length := by simpa using h1
  simp [jF_lt b (f := f) h8 this]

theorem turnF_lay {b : Bool} {f : Nat} {l : List Int} {due : Int} {i : Nat} (h8 : l.length ≤ 8) (hi : i < l.length) (hd : 0 ≤ due) :
    layF (turnF b f l due i) (kF b l.length f i) (l.getD (kF b l.length f i) 0) 0 = (turnF b f l due (i + 1), 0) := by
  have hk := kF_lt b (f := f) h8 hi
  have hj : jF b l.length f (kF b l.length f i) = i := (turn_iff b h8 hi hk).2 rfl
  unfold layF
  have hst : (turnF b f l due i).stakes = l := rfl
  have hdu : (turnF b f l due i).due = due := rfl
  rw [hst, hdu, if_neg (by rw [there_iff.2 ⟨_, rfl, hk⟩]; simp), if_neg (by omega)]
  rw [if_neg (by
    unfold turnF
    simp [List.getD_eq_getElem?_getD, hk, hj]), if_pos (by simp)]
  unfold turnF
  simp only [Int.toNat_natCast, Prod.mk.injEq, and_true, FundX.mk.injEq, true_and]
  refine List.ext_getElem (by simp) fun s h1 h2 => ?_
  have hs : s < l.length := by simpa using h2
  have h3 := turn_iff b (f := f) h8 hi hs
  rw [List.getElem_set]
  simp only [List.getElem_map, List.getElem_range]
  split
  · next e => rw [← e, hj]; simp
  · next e =>
    rw [Bool.eq_iff_iff]
    simp only [decide_eq_true_eq]
    constructor
    · intro h; omega
    · intro h
      have : jF b l.length f s ≠ i := fun h4 => e (h3.1 h4).symm
      omega
end Go.Proofs.Ytoeoneiopcagfaa
