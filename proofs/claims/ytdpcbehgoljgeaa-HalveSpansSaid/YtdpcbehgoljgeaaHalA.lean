/- The trials of the layer halve: how they lie in memory. -/
import Derived.Test.YtdpcbehgoljgeaaDig
import Derived.WalkMore
namespace Go.Proofs.Ytdpcbehgoljgeaa
open Go.RowKit

/-- What a trial is. -/
structure Tri where
  fro : Nat
  steps : Nat
  ahead : Dig
  behind : Dig
  prog : Dig
  size : Int
  mid : Dig
  told : Bool
  won : Int

def spanL (fro steps : Nat) (a b : Dig) : List Value := [.int .i64 fro, .int .i64 steps] ++ (digL a ++ digL b)
def triL (t : Tri) : List Value := spanL t.fro t.steps t.ahead t.behind ++ (digL t.prog ++ ([.int .i64 t.size] ++ (digL t.mid ++ [.bool t.told, .int .i64 t.won])))

/-- A trial lies in block g, from block base on. -/
structure TriP (w : World) (base g : Nat) (t : Tri) : Prop where
  le : base ≤ g
  hh : w.heap[g]? = some (.cells (triL t).toArray 45 (0, 0))

theorem triL_len (t : Tri) : (triL t).length = 37 := by simp [triL, spanL, digL_len]

theorem TriP.range {w : World} {base g : Nat} {t : Tri} (h : TriP w base g t) (a b c : List Value) (hc : triL t = a ++ b ++ c) : w.rangeAt g a.length b := range_of_block h.hh a b c hc
theorem TriP.cell {w : World} {base g : Nat} {t : Tri} (h : TriP w base g t) (k : Nat) (v : Value) (hk : (triL t)[k]? = some v) : w.cell? ⟨g, k, none⟩ = some v := by
  unfold World.cell?; rw [h.hh]; simpa using hk
theorem TriP.c_fro {w : World} {base g : Nat} {t : Tri} (h : TriP w base g t) : w.cell? ⟨g, 0, none⟩ = some (.int .i64 t.fro) := h.cell 0 _ rfl
theorem TriP.c_steps {w : World} {base g : Nat} {t : Tri} (h : TriP w base g t) : w.cell? ⟨g, 1, none⟩ = some (.int .i64 t.steps) := h.cell 1 _ rfl
theorem TriP.c_told {w : World} {base g : Nat} {t : Tri} (h : TriP w base g t) : w.cell? ⟨g, 35, none⟩ = some (.bool t.told) := h.cell 35 _ (by simp [triL, spanL, digL_len, List.getElem?_append])
theorem TriP.c_won {w : World} {base g : Nat} {t : Tri} (h : TriP w base g t) : w.cell? ⟨g, 36, none⟩ = some (.int .i64 t.won) := h.cell 36 _ (by simp [triL, spanL, digL_len, List.getElem?_append])
theorem TriP.r_ahead {w : World} {base g : Nat} {t : Tri} (h : TriP w base g t) : w.rangeAt g 2 (digL t.ahead) :=
  h.range [.int .i64 t.fro, .int .i64 t.steps] _ _ (by unfold triL spanL; simp only [List.append_assoc]; rfl)
theorem TriP.r_behind {w : World} {base g : Nat} {t : Tri} (h : TriP w base g t) : w.rangeAt g 10 (digL t.behind) := by
  have := h.range ([.int .i64 t.fro, .int .i64 t.steps] ++ digL t.ahead) (digL t.behind) _ (by unfold triL spanL; simp only [List.append_assoc]; rfl)
  simpa [digL_len] using this
theorem TriP.r_mid {w : World} {base g : Nat} {t : Tri} (h : TriP w base g t) : w.rangeAt g 27 (digL t.mid) := by
  have := h.range (spanL t.fro t.steps t.ahead t.behind ++ digL t.prog ++ [.int .i64 t.size]) (digL t.mid) _ (by unfold triL; simp only [List.append_assoc]; rfl)
  simpa [digL_len, spanL] using this
theorem TriP.there {w : World} {base g : Nat} {t : Tri} (h : TriP w base g t) (o n : Nat) (hn : o + n ≤ 37) : w.there g o n := fun j hj => by
  have hl := triL_len t
  refine ⟨?_, frozen_of_row w g _ _ _ h.hh⟩
  rw [cell_of_row w g _ _ _ _ h.hh, List.getElem?_toArray, List.getElem?_eq_getElem (by omega)]
  rfl
theorem TriP.lt {w : World} {base g : Nat} {t : Tri} (h : TriP w base g t) : g < w.heap.size := lt_of_block h.hh
theorem TriP.keep {w w' : World} {base g : Nat} {t : Tri} {row : Option Nat} (h : TriP w base g t) (hg : w.grownBy w' row) (hrow : row ≠ some g) : TriP w' base g t :=
  ⟨h.le, by rw [hg.block g h.lt (fun e => hrow e.symm)]; exact h.hh⟩
theorem TriP.below {w w' : World} {base g : Nat} {t : Tri} (h : TriP w base g t) (hb : Below w.heap.size w w') : TriP w' base g t := h.keep (grown_of_below hb none) (fun e => by cases e)

set_option maxRecDepth 100000 in
set_option maxHeartbeats 1000000 in
theorem over_any {w : World} {base g : Nat} {t : Tri} (h : TriP w base g t) :
    Calls Try.prog 15 #[.pointer (some ⟨g, 0, none⟩)] w fun e w' => e = .returned (.bool (t.won != -1)) ∧ w = w' := by
  have c1 := h.c_won
  go_enter Try.func15, Try.ntmps15
  go_wp2_with fail
  go_ret
  exact ⟨rfl, rfl⟩

def turnF (t : Tri) : Int := if t.won ≠ -1 then -1 else if t.told then 1 else 0

set_option maxRecDepth 100000 in
set_option maxHeartbeats 1000000 in
theorem turn_any {w : World} {base g : Nat} {t : Tri} (h : TriP w base g t) :
    Calls Try.prog 13 #[.pointer (some ⟨g, 0, none⟩)] w fun e w' => e = .returned (.int .i64 (turnF t)) ∧ w = w' := by
  have c1 := h.c_told
  have hc : ((t.won != -1) = true ∧ turnF t = -1) ∨ ((t.won != -1) = false ∧ t.told = true ∧ turnF t = 1) ∨ ((t.won != -1) = false ∧ t.told = false ∧ turnF t = 0) := by
    unfold turnF
    by_cases hw : t.won = -1
    · cases ht : t.told <;> simp [hw]
    · simp [hw]
  rcases hc with ⟨t1, t2⟩ | ⟨t1, t3, t2⟩ | ⟨t1, t3, t2⟩
  all_goals
    go_enter Try.func13, Try.ntmps13
    go_wp2_with fail
    refine (over_any h).mono ?_
    rintro e w1 ⟨rfl, rfl⟩
    go_wp2_with fail
    go_ret
    exact ⟨by rw [t2]; rfl, rfl⟩

/-- What is wrong with a deed of somebody. -/
def askedF (t : Tri) (who : Int) (one : Bool) : Nat := if t.won ≠ -1 then 15 else if turnF t ≠ who ∨ (t.steps == 1) ≠ one then 10 else 0

set_option maxRecDepth 100000 in
set_option maxHeartbeats 1000000 in
theorem asked_any {w : World} {base g : Nat} {t : Tri} {who : Int} {one : Bool} (h : TriP w base g t) :
    Calls Try.prog 14 #[.pointer (some ⟨g, 0, none⟩), .int .i64 who, .bool one] w fun e w' => e = .returned (.int .i64 (askedF t who one : Nat)) ∧ w = w' := by
  have c1 := h.c_steps
  have hc : ((t.won != -1) = true ∧ ((askedF t who one : Nat) : Int) = 15) ∨ ((t.won != -1) = false ∧ (turnF t != who) = true ∧ ((askedF t who one : Nat) : Int) = 10) ∨
      ((t.won != -1) = false ∧ (turnF t != who) = false ∧ (((t.steps : Int) == 1) == one) = false ∧ ((askedF t who one : Nat) : Int) = 10) ∨ ((t.won != -1) = false ∧ (turnF t != who) = false ∧ (((t.steps : Int) == 1) == one) = true ∧ ((askedF t who one : Nat) : Int) = 0) := by
    have he : ((t.steps : Int) == 1) = (t.steps == 1) := by rw [Bool.eq_iff_iff]; simp; omega
    rw [he]
    unfold askedF
    by_cases hw : t.won = -1
    · by_cases hT : turnF t = who
      · by_cases ho : (t.steps == 1) = one
        · right; right; right; simp [hw, hT, ho]
        · right; right; left; simp [hw, hT, ho]
      · right; left; simp [hw, hT]
    · simp [hw]
  rcases hc with ⟨t1, t2⟩ | ⟨t1, t3, t2⟩ | ⟨t1, t3, t4, t2⟩ | ⟨t1, t3, t4, t2⟩
  all_goals
    go_enter Try.func14, Try.ntmps14
    go_wp2_with fail
    refine (over_any h).mono ?_
    rintro e w1 ⟨rfl, rfl⟩
    go_wp2_with fail
    first
    | (go_ret
       exact ⟨by rw [t2]; rfl, rfl⟩)
    | (refine (turn_any h).mono ?_
       rintro e w1 ⟨rfl, rfl⟩
       go_wp2_with fail
       go_ret
       exact ⟨by rw [t2]; rfl, rfl⟩)

def silenceF (t : Tri) : Tri × Nat := if t.won ≠ -1 then (t, 15) else ({ t with won := if turnF t = 0 then 1 else 0 }, 0)

theorem TriP.win {w : World} {base g : Nat} {t : Tri} (h : TriP w base g t) (z : Int) : TriP (w.setCell ⟨g, 36, none⟩ (.int .i64 z)) base g { t with won := z } := by
  refine ⟨h.le, ?_⟩
  rw [heap_set h.hh]
  obtain ⟨f, s, a, b, p, z0, m, td, wn⟩ := t
  obtain ⟨a0, a1, a2, a3, a4, a5, a6, a7, rfl⟩ := dig_ex a
  obtain ⟨b0, b1, b2, b3, b4, b5, b6, b7, rfl⟩ := dig_ex b
  obtain ⟨p0, p1, p2, p3, p4, p5, p6, p7, rfl⟩ := dig_ex p
  obtain ⟨m0, m1, m2, m3, m4, m5, m6, m7, rfl⟩ := dig_ex m
  rfl

set_option maxRecDepth 100000 in
set_option maxHeartbeats 1000000 in
theorem silence_any {w : World} {base g : Nat} {t : Tri} (h : TriP w base g t) :
    Calls Try.prog 10 #[.pointer (some ⟨g, 0, none⟩)] w fun e w' => e = .returned (.int .i64 ((silenceF t).2 : Nat)) ∧ TriP w' base g (silenceF t).1 ∧ w.grownBy w' (some g) := by
  have c1 := h.c_won
  have f1 := frozen_of_row w g 36 _ _ h.hh
  by_cases hw : t.won = -1
  · have t1 : (t.won != -1) = false := by simp [hw]
    by_cases ht : turnF t = 0
    · have t2 : (turnF t == 0) = true := by simp [ht]
      have hs : silenceF t = ({ t with won := 1 }, 0) := by unfold silenceF; rw [if_neg (by simpa using hw), if_pos ht]
      rw [hs]
      clear hs hw ht
      go_enter Try.func10, Try.ntmps10
      go_wp2_with fail
      refine (over_any h).mono ?_
      rintro e w1 ⟨rfl, rfl⟩
      go_wp2_with fail
      refine (turn_any h).mono ?_
      rintro e w1 ⟨rfl, rfl⟩
      go_wp2_with fail
      go_ret
      exact ⟨rfl, h.win 1, grown_setCell _ _ _⟩
    · have t2 : (turnF t == 0) = false := by simpa using ht
      have hs : silenceF t = ({ t with won := 0 }, 0) := by unfold silenceF; rw [if_neg (by simpa using hw), if_neg ht]
      rw [hs]
      clear hs hw ht
      go_enter Try.func10, Try.ntmps10
      go_wp2_with fail
      refine (over_any h).mono ?_
      rintro e w1 ⟨rfl, rfl⟩
      go_wp2_with fail
      refine (turn_any h).mono ?_
      rintro e w1 ⟨rfl, rfl⟩
      go_wp2_with fail
      go_ret
      exact ⟨rfl, h.win 0, grown_setCell _ _ _⟩
  · have t1 : (t.won != -1) = true := by simpa using hw
    have hs : silenceF t = (t, 15) := by unfold silenceF; rw [if_pos hw]
    rw [hs]
    clear hs hw
    go_enter Try.func10, Try.ntmps10
    go_wp2_with fail
    refine (over_any h).mono ?_
    rintro e w1 ⟨rfl, rfl⟩
    go_wp2_with fail
    go_ret
    exact ⟨rfl, h, grown_of_below (Below.refl _ _) _⟩

set_option maxRecDepth 100000 in
set_option maxHeartbeats 1000000 in
theorem winner_any {w : World} {base g : Nat} {t : Tri} (h : TriP w base g t) :
    Calls Try.prog 11 #[.pointer (some ⟨g, 0, none⟩)] w fun e w' => e = .returned (.tuple #[.int .i64 t.won, .bool (t.won != -1)]) ∧ w = w' := by
  have c1 := h.c_won
  rcases Bool.eq_false_or_eq_true (t.won != -1) with t1 | t1
  all_goals
    have hq : t.won = -1 ∨ t.won ≠ -1 := by omega
    have HQ := hide hq
    clear hq
    go_enter Try.func11, Try.ntmps11
    go_wp2_with fail
    refine (over_any h).mono ?_
    rintro e w1 ⟨rfl, rfl⟩
    go_wp2_with fail
    go_ret2
    refine ⟨?_, rfl⟩
    rw [t1]
    first | rfl | (have h1 : t.won = -1 := by simpa using t1
                   rw [h1]; rfl)

end Go.Proofs.Ytdpcbehgoljgeaa
