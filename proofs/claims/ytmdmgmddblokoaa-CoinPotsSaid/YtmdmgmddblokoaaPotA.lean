/- The pots of the layer coin: how they lie in memory; NewPot, Left, at, Pay, each by its walk. -/
import Derived.Test.YtmdmgmddblokoaaCoinC
import Derived.Test.YtmdmgmddblokoaaMem
import Derived.StillTailTactics
namespace Go.Proofs.Ytmdmgmddblokoaa
open Go.RowKit

def i64L (l : List Int) : List Value := l.map (Value.int .i64)
def potL (p : PotX) : List Value := [.int .i64 p.left, .int .i64 p.has.length] ++ i64L (p.has ++ List.replicate (8 - p.has.length) 0)

/-- A pot lies in block g, from block base on. -/
structure PotP (w : World) (base g : Nat) (p : PotX) : Prop where
  le : base ≤ g
  most : p.has.length ≤ 8
  hh : w.heap[g]? = some (.cells (potL p).toArray 66 (0, 0))

theorem potL_len {p : PotX} (h : p.has.length ≤ 8) : (potL p).length = 10 := by simp [potL, i64L]; omega

section
variable {w w' : World} {base g : Nat} {p : PotX}
theorem PotP.cell (h : PotP w base g p) (k : Nat) (v : Value) (hk : (potL p)[k]? = some v) : w.cell? ⟨g, k, none⟩ = some v := by
  unfold World.cell?; rw [h.hh]; simpa using hk
theorem PotP.c_left (h : PotP w base g p) : w.cell? ⟨g, 0, none⟩ = some (.int .i64 p.left) := h.cell 0 _ rfl
theorem PotP.c_seats (h : PotP w base g p) : w.cell? ⟨g, 1, none⟩ = some (.int .i64 p.has.length) := h.cell 1 _ rfl
theorem PotP.c_has (h : PotP w base g p) {i : Nat} (hi : i < p.has.length) : w.cell? ⟨g, 2 + i, none⟩ = some (.int .i64 (p.has.getD i 0)) := by
  refine h.cell _ _ ?_
  unfold potL i64L
  rw [List.getElem?_append_right (by simp)]
  simp [List.getElem?_append, hi]
theorem PotP.lt (h : PotP w base g p) : g < w.heap.size := lt_of_block h.hh
theorem PotP.free (h : PotP w base g p) (k : Nat) : w.frozen? ⟨g, k, none⟩ = false := frozen_of_row w g k _ _ h.hh
theorem PotP.keep {row : Option Nat} (h : PotP w base g p) (hg : w.grownBy w' row) (hrow : row ≠ some g) : PotP w' base g p :=
  ⟨h.le, h.most, by rw [hg.block g h.lt (fun e => hrow e.symm)]; exact h.hh⟩
theorem PotP.below (h : PotP w base g p) (hb : Below w.heap.size w w') : PotP w' base g p := h.keep (grown_of_below hb none) (fun e => by cases e)
theorem PotP.setLeft (h : PotP w base g p) (z : Int) : PotP (w.setCell ⟨g, 0, none⟩ (.int .i64 z)) base g { p with left := z } := by
  refine ⟨h.le, h.most, ?_⟩
  rw [heap_set h.hh]
  rfl
theorem PotP.setHas (h : PotP w base g p) {i : Nat} (hi : i < p.has.length) (z : Int) : PotP (w.setCell ⟨g, 2 + i, none⟩ (.int .i64 z)) base g { p with has := p.has.set i z } := by
  refine ⟨h.le, by simpa using h.most, ?_⟩
  rw [heap_set h.hh]
  congr 2
  unfold potL i64L
  simp only [List.setIfInBounds_toArray, List.length_set]
  congr 1
  rw [List.set_append_right _ _ (by simp)]
  simp [List.map_set, List.set_append, hi]

/-- What the seats have, as a slice that can be read. -/
theorem PotP.rd (h : PotP w base g p) : RdS intE w (some ⟨g, 2, none⟩) p.has.length 8 p.has := by
  refine ⟨Rd.mk_some fun i u hu => ?_, rfl, h.most, fun e => by cases e⟩
  have e : ∀ l : List Int, l.flatMap intE.enc = i64L l := fun l => by
    induction l with
    | nil => rfl
    | cons x l ih => rw [List.flatMap_cons, ih]; rfl
  rw [e] at hu
  have hi : i < p.has.length := by have := (List.getElem?_eq_some_iff.1 hu).1; simpa [i64L] using this
  rw [h.c_has hi, ← hu]
  simp [i64L, List.getD_eq_getElem?_getD, hi]
end

theorem potL_start (amount : Int) {n : Nat} (h : n ≤ 8) : potL ⟨amount, List.replicate n 0⟩ = [.int .i64 amount, .int .i64 n, .int .i64 0, .int .i64 0, .int .i64 0, .int .i64 0, .int .i64 0, .int .i64 0, .int .i64 0, .int .i64 0] := by
  unfold potL i64L
  show [Value.int .i64 amount, Value.int .i64 ((List.replicate n (0 : Int)).length : Nat)] ++ List.map (Value.int .i64) (List.replicate n 0 ++ List.replicate (8 - (List.replicate n (0 : Int)).length) 0) = _
  rw [List.length_replicate, List.replicate_append_replicate, show n + (8 - n) = 8 by omega]
  rfl

/-- What NewPot says of a number and seats. -/
def newErr (amount seats : Int) : Int := if okA amount = true then (if seats < 1 ∨ 8 < seats then 1 else 0) else 2

set_option maxRecDepth 100000 in
set_option maxHeartbeats 1000000 in
theorem newpot_no {w : World} {amount seats : Int} (h : newErr amount seats ≠ 0) :
    Calls Try.prog 14 #[.int .i64 amount, .int .i64 seats] w fun e w' => e = .returned (.tuple #[.pointer none, .int .i64 (newErr amount seats)]) ∧ w = w' := by
  have hc : (okA amount = false ∧ newErr amount seats = 2) ∨ (okA amount = true ∧ seats < 1 ∧ newErr amount seats = 1) ∨ (okA amount = true ∧ 1 ≤ seats ∧ 8 < seats ∧ newErr amount seats = 1) := by
    unfold newErr at h ⊢
    cases hA : okA amount
    · simp
    · rw [hA] at h
      by_cases h1 : seats < 1
      · simp [h1]
      · by_cases h2 : 8 < seats
        · simp [h2]; omega
        · exact absurd (by simp [h1, h2]) h
  have HN := hide h
  clear h
  rcases hc with ⟨t1, e⟩ | ⟨t1, t2, e⟩ | ⟨t1, t2, t3, e⟩
  all_goals
    have HE := hide e
    clear e
    go_enter Try.func14, Try.ntmps14
    go_wp2_with fail
    refine (rightC_any amount w).mono ?_
    rintro e w1 ⟨rfl, rfl⟩
    go_wp2_with fail
    go_ret2
    exact ⟨by rw [HE.out]; rfl, rfl⟩

set_option maxRecDepth 100000 in
set_option maxHeartbeats 1000000 in
theorem newpot_ok {w : World} {amount : Int} {n : Nat} (h : newErr amount n = 0) :
    Calls Try.prog 14 #[.int .i64 amount, .int .i64 n] w fun e w' => ∃ g, e = .returned (.tuple #[.pointer (some ⟨g, 0, none⟩), .int .i64 0]) ∧
      PotP w' w.heap.size g ⟨amount, List.replicate n 0⟩ ∧ PotX.Ok ⟨amount, List.replicate n 0⟩ amount n ∧ Below w.heap.size w w' := by
  have hc : okA amount = true ∧ 1 ≤ n ∧ n ≤ 8 := by
    unfold newErr at h
    cases hA : okA amount
    · rw [hA] at h; simp at h
    · rw [hA] at h
      by_cases h1 : (n : Int) < 1 ∨ 8 < (n : Int)
      · simp [h1] at h
      · exact ⟨rfl, by omega, by omega⟩
  obtain ⟨t1, h1, h8⟩ := hc
  have t2 : (1 : Int) ≤ n := by omega
  have t3 : (n : Int) ≤ 8 := by omega
  clear h
  go_enter Try.func14, Try.ntmps14
  go_wp2_with fail
  refine (rightC_any amount w).mono ?_
  rintro e w1 ⟨rfl, rfl⟩
  go_wp2_with fail
  go_ret2
  refine ⟨w.heap.size, rfl, ⟨Nat.le_refl _, by simpa using h8, ?_⟩, PotX.Ok.start t1 h1 h8, below_alloc _ _⟩
  rw [potL_start amount h8]
  exact heap_alloc_new w _

set_option maxRecDepth 100000 in
set_option maxHeartbeats 1000000 in
theorem left_any {w : World} {base g : Nat} {p : PotX} (h : PotP w base g p) :
    Calls Try.prog 18 #[.pointer (some ⟨g, 0, none⟩)] w fun e w' => e = .returned (.int .i64 p.left) ∧ w = w' := by
  have c1 := h.c_left
  go_enter Try.func18, Try.ntmps18
  go_wp2_with fail
  go_ret
  exact ⟨rfl, rfl⟩

set_option maxRecDepth 100000 in
set_option maxHeartbeats 1000000 in
theorem seat_any {w : World} {base g : Nat} {p : PotX} {seat : Int} (h : PotP w base g p) :
    Calls Try.prog 32 #[.pointer (some ⟨g, 0, none⟩), .int .i64 seat] w fun e w' => e = .returned (.int .i64 (seatF p.has.length seat : Nat)) ∧ w = w' := by
  have c1 := h.c_seats
  generalize p.has.length = n at *
  have hc : (seat < 0 ∧ ((seatF n seat : Nat) : Int) = 0) ∨ (0 ≤ seat ∧ (n : Int) ≤ seat ∧ ((seatF n seat : Nat) : Int) = 0) ∨ (0 ≤ seat ∧ seat < (n : Int) ∧ ((seatF n seat : Nat) : Int) = seat) := by
    unfold seatF
    split <;> omega
  rcases hc with ⟨t1, e⟩ | ⟨t1, t2, e⟩ | ⟨t1, t2, e⟩
  all_goals
    have HE := hide e
    clear e
    go_enter Try.func32, Try.ntmps32
    go_wp2_with fail
    go_ret
    exact ⟨by rw [HE.out]; rfl, rfl⟩

set_option maxRecDepth 100000 in
set_option maxHeartbeats 1000000 in
theorem pay_any {w : World} {base g : Nat} {p : PotX} {amount : Int} {n : Nat} {seat ask : Int} (h : PotP w base g p) (hk : p.Ok amount n) :
    Calls Try.prog 17 #[.pointer (some ⟨g, 0, none⟩), .int .i64 seat, .int .i64 ask] w fun e w' => e = .returned (.int .i64 (paidF p ask)) ∧ PotP w' base g (payF p seat ask) ∧ w.grownBy w' (some g) := by
  have c1 := h.c_left
  have f1 := h.free 0
  have h1 := h.setLeft (p.left - paidF p ask)
  have hg1 := grown_setCell w ⟨g, 0, none⟩ (.int .i64 (p.left - paidF p ask))
  have hi : seatF p.has.length seat < p.has.length := seatF_lt (by rw [hk.len]; exact hk.one) seat
  have hi8 : seatF p.has.length seat < 8 := by have := h.most; omega
  have h2 := h1.setHas (i := seatF p.has.length seat) hi (p.has.getD (seatF p.has.length seat) 0 + paidF p ask)
  have hat := seat_any (seat := seat) h1
  have hg2 := grown_setCell (w.setCell ⟨g, 0, none⟩ (.int .i64 (p.left - paidF p ask))) ⟨g, 2 + seatF p.has.length seat, none⟩ (.int .i64 (p.has.getD (seatF p.has.length seat) 0 + paidF p ask))
  obtain ⟨b1, b2⟩ := hk.paid ask
  obtain ⟨b3, b4, b5, b6⟩ := hk.get (seatF p.has.length seat)
  have c2 := h1.c_has (i := seatF p.has.length seat) hi
  have f2 := h1.free (2 + seatF p.has.length seat)
  have hc : (p.left < ask ∧ paidF p ask = p.left) ∨ (ask ≤ p.left ∧ ask < 0 ∧ paidF p ask = 0) ∨ (ask ≤ p.left ∧ 0 ≤ ask ∧ paidF p ask = ask) := by
    unfold paidF
    split
    · left; exact ⟨by assumption, rfl⟩
    · split
      · right; left; exact ⟨by omega, by assumption, rfl⟩
      · right; right; exact ⟨by omega, by omega, rfl⟩
  have hp0 := hk.pos
  simp only at c2
  generalize hs : seatF p.has.length seat = s at *
  generalize hv : p.has.getD s 0 = v at *
  generalize hm : paidF p ask = m at *
  have hw0 : wrap64 (p.left - m) = p.left - m := by go_arith
  have hw1 : wrap64 (v + m) = v + m := by go_arith
  have hend : payF p seat ask = { left := p.left - m, has := p.has.set s (v + m) } := by unfold payF; rw [hm, hs, hv]
  rw [hend]
  obtain ⟨W1, hW1⟩ : ∃ W1, w.setCell ⟨g, 0, none⟩ (.int .i64 (p.left - m)) = W1 := ⟨_, rfl⟩
  rw [hW1] at h1 hg1 h2 hat hg2 c2 f2
  have HW := hide hW1
  have HC := hide hc
  have HE := hide hend
  have HM := hide hm
  have HS := hide hs
  clear hW1 hc hend hm hs hv hk hat
  go_enter Try.func17, Try.ntmps17
  go_upto_region 3 with fail
  go_cut [7] from 10 to 16 (fun v wr => v = .int .i64 m ∧ wr = w)
  case first =>
    have hc := HC.out
    rcases hc with ⟨t1, e⟩ | ⟨t1, t2, e⟩ | ⟨t1, t2, e⟩
    all_goals
      have HE2 := hide e
      clear e
      go_wp2_with fail
      go_meet
      case rel => exact ⟨by rw [HE2.out], rfl⟩
  case rest =>
    obtain ⟨rfl, rfl⟩ := hcut
    go_wp2_with fail
    rw [HW.out]
    have h1 := h1.below (Below.refl W1.heap.size W1).drew
    have hat2 := (seat_any (seat := seat) h1).mono (R' := fun e w' => e = .returned (.int .i64 (s : Nat)) ∧ w' = W1.drew) fun e w' ⟨a, b⟩ => ⟨by rw [a]; simp only [HS.out], b.symm⟩
    have i1 : (s : Int) < 8 := by omega
    have i2 : IntKind.i64.wrap (v + m) = v + m := by go_arith
    refine wp_region_still_tail 13 (by kernel_rfl) (by kernel_rfl) ?_
    simp only [List.take_succ_cons, List.take_zero, List.drop_succ_cons, List.drop_zero]
    still_step
    still_step
    still_step
    still_call hat2
    repeat still_step
    refine wpStill_nil ?_
    change wpList _ _ _ _ _ W1.drew
    have h2 := h1.setHas (i := s) hi (v + m)
    have c2 := h1.c_has (i := s) hi
    have f2 := h1.free (2 + s)
    have hg2 := grown_trans hg1 (grown_of_below (Below.refl W1.heap.size W1).drew (some g))
    clear hat2 i2 hw1
    generalize W1.drew = W2 at *
    go_wp2_with fail
    go_ret
    exact ⟨rfl, h2, grown_trans hg2 (grown_setCell _ _ _)⟩
end Go.Proofs.Ytmdmgmddblokoaa
