/- The layer fund: what a fund is, plainly; how it lies in memory. -/
import Derived.Test.YtoeoneiopcagfaaSlices
import Derived.Test.YtoeoneiopcagfaaCoinA
import Derived.Test.YtoeoneiopcagfaaMem
namespace Go.Proofs.Ytoeoneiopcagfaa
open Go.RowKit

/-- What a fund is: the stakes, by which height, which are laid. -/
structure FundX where
  stakes : List Int
  due : Int
  laid : List Bool

structure FundX.Ok (f : FundX) : Prop where
  len : f.laid.length = f.stakes.length
  two : 2 ≤ f.stakes.length
  most : f.stakes.length ≤ 8
  pos : ∀ x ∈ f.stakes, 0 < x
  sum : f.stakes.sum ≤ 1125899906842624

def fullF (f : FundX) : Bool := f.laid.all id
def thereF (n : Nat) (seat : Int) : Bool := decide (0 ≤ seat) && decide (seat < (n : Int))
def givens (f : FundX) : List Int := List.zipWith (fun s b => if b then s else 0) f.stakes f.laid
def givenF (f : FundX) (seat : Int) : Int := if thereF f.stakes.length seat = true then (givens f).getD seat.toNat 0 else 0
def heldF (f : FundX) : Int := (givens f).sum
def phaseF (f : FundX) (now : Int) : Int := if fullF f = true then 1 else if f.due < now then 2 else 0
def layF (f : FundX) (seat amount now : Int) : FundX × Int :=
  if thereF f.stakes.length seat = false then (f, 28) else if f.due < now then (f, 19) else if f.laid.getD seat.toNat false = true then (f, 7) else
  if amount = f.stakes.getD seat.toNat 0 then ({ f with laid := f.laid.set seat.toNat true }, 0) else (f, 22)
def backF (f : FundX) (seat : Int) : FundX × Int × Int :=
  if thereF f.stakes.length seat = false then (f, 0, 28) else if f.laid.getD seat.toNat false = false then (f, 0, 9) else if fullF f = true then (f, 0, 10) else
  ({ f with laid := f.laid.set seat.toNat false }, f.stakes.getD seat.toNat 0, 0)

theorem there_iff {n : Nat} {seat : Int} : thereF n seat = true ↔ ∃ k : Nat, seat = k ∧ k < n := by
  unfold thereF
  simp only [Bool.and_eq_true, decide_eq_true_eq]
  constructor
  · rintro ⟨h1, h2⟩; exact ⟨seat.toNat, by omega, by omega⟩
  · rintro ⟨k, rfl, h⟩; omega

theorem FundX.Ok.lay {f : FundX} (h : f.Ok) (seat amount now : Int) : (layF f seat amount now).1.Ok := by
  unfold layF
  split
  · exact h
  · split
    · exact h
    · split
      · exact h
      · split
        · exact ⟨by simpa using h.len, h.two, h.most, h.pos, h.sum⟩
        · exact h

theorem FundX.Ok.back {f : FundX} (h : f.Ok) (seat : Int) : (backF f seat).1.Ok := by
  unfold backF
  split
  · exact h
  · split
    · exact h
    · split
      · exact h
      · exact ⟨by simpa using h.len, h.two, h.most, h.pos, h.sum⟩

theorem givens_len {f : FundX} (h : f.Ok) : (givens f).length = f.stakes.length := by simp [givens, h.len]

theorem givens_at {f : FundX} (h : f.Ok) {k : Nat} (hk : k < f.stakes.length) : (givens f).getD k 0 = if f.laid.getD k false = true then f.stakes.getD k 0 else 0 := by
  have hl : k < f.laid.length := by rw [h.len]; exact hk
  simp [givens, List.getD_eq_getElem?_getD, List.getElem?_zipWith, List.getElem?_eq_getElem hk, List.getElem?_eq_getElem hl]

def boolL (l : List Bool) : List Value := l.map Value.bool
def padL (n : Nat) (l : List Bool) : List Bool := l ++ List.replicate (8 - n) false
def fundL (so : Option Addr) (c : Nat) (f : FundX) : List Value := [.slice so f.stakes.length c, .int .i64 f.due] ++ boolL (padL f.stakes.length f.laid)

/-- A fund lies in block g, its stakes elsewhere, all from block base on. -/
structure FundQ (w : World) (base g : Nat) (so : Option Addr) (c : Nat) (f : FundX) : Prop where
  le : base ≤ g
  hh : w.heap[g]? = some (.cells (fundL so c f).toArray 65 (0, 0))
  own : OwnS intE w base so f.stakes.length c f.stakes
  apart : (Value.slice so f.stakes.length c).ownBlock ≠ some g

def FundP (w : World) (base g : Nat) (f : FundX) : Prop := ∃ so c, FundQ w base g so c f

section
variable {w w' : World} {base g c : Nat} {so : Option Addr} {f : FundX}
theorem FundQ.cell (h : FundQ w base g so c f) (k : Nat) (v : Value) (hk : (fundL so c f)[k]? = some v) : w.cell? ⟨g, k, none⟩ = some v := by
  unfold World.cell?; rw [h.hh]; simpa using hk
theorem FundQ.c_stakes (h : FundQ w base g so c f) : w.cell? ⟨g, 0, none⟩ = some (.slice so f.stakes.length c) := h.cell 0 _ rfl
theorem FundQ.c_due (h : FundQ w base g so c f) : w.cell? ⟨g, 1, none⟩ = some (.int .i64 f.due) := h.cell 1 _ rfl
theorem FundQ.c_laid (h : FundQ w base g so c f) {i : Nat} (hi : i < f.laid.length) : w.cell? ⟨g, 2 + i, none⟩ = some (.bool (f.laid.getD i false)) := by
  refine h.cell _ _ ?_
  unfold fundL boolL padL
  rw [List.getElem?_append_right (by simp)]
  simp [List.getElem?_append, hi]
theorem FundQ.lt (h : FundQ w base g so c f) : g < w.heap.size := lt_of_block h.hh
theorem FundQ.free (h : FundQ w base g so c f) (k : Nat) : w.frozen? ⟨g, k, none⟩ = false := frozen_of_row w g k _ _ h.hh
theorem FundQ.keep {row : Option Nat} (h : FundQ w base g so c f) (hg : w.grownBy w' row) (hrow : row ≠ some g) (hs : (Value.slice so f.stakes.length c).ownBlock = none ∨ (Value.slice so f.stakes.length c).ownBlock ≠ row) : FundQ w' base g so c f :=
  ⟨h.le, by rw [hg.block g h.lt (fun e => hrow e.symm)]; exact h.hh, h.own.grown hg hs, h.apart⟩
theorem FundQ.below (h : FundQ w base g so c f) (hb : Below w.heap.size w w') : FundQ w' base g so c f :=
  h.keep (grown_of_below hb none) (fun e => by cases e) (by cases hv : (Value.slice so f.stakes.length c).ownBlock <;> simp)
theorem FundP.below (h : FundP w base g f) (hb : Below w.heap.size w w') : FundP w' base g f := by
  obtain ⟨so, c, h⟩ := h; exact ⟨so, c, h.below hb⟩
theorem FundP.lt (h : FundP w base g f) : g < w.heap.size := by obtain ⟨so, c, h⟩ := h; exact h.lt
theorem FundP.le (h : FundP w base g f) : base ≤ g := by obtain ⟨so, c, h⟩ := h; exact h.le
/-- What another fund's deeds, and what lies further up, leave alone. -/
theorem FundP.keepUp {g2 : Nat} (h : FundP w base g f) (hg : w.grownBy w' (some g2)) (h2 : w.heap.size ≤ g2) : FundP w' base g f := by
  obtain ⟨so, c, h⟩ := h
  refine ⟨so, c, h.keep hg (fun e => ?_) ?_⟩
  · have := Option.some.inj e; have := h.lt; omega
  · cases so with
    | none => exact .inl rfl
    | some ad =>
      obtain ⟨g3, rfl, _, hb⟩ := h.own.addr ad rfl
      refine .inr ?_
      simp [Value.ownBlock]
      omega
theorem FundP.keepDown {g2 : Nat} (h : FundP w base g f) (hg : w.grownBy w' (some g2)) (h2 : g2 < base) : FundP w' base g f := by
  obtain ⟨so, c, h⟩ := h
  refine ⟨so, c, h.keep hg (fun e => ?_) ?_⟩
  · have := Option.some.inj e; have := h.le; omega
  · cases so with
    | none => exact .inl rfl
    | some ad =>
      obtain ⟨g3, rfl, hb, _⟩ := h.own.addr ad rfl
      refine .inr ?_
      simp [Value.ownBlock]
      omega
theorem FundQ.setLaid (h : FundQ w base g so c f) {i : Nat} (hi : i < f.laid.length) (z : Bool) : FundQ (w.setCell ⟨g, 2 + i, none⟩ (.bool z)) base g so c { f with laid := f.laid.set i z } := by
  refine ⟨h.le, ?_, ?_, h.apart⟩
  · rw [heap_set h.hh]
    congr 2
    unfold fundL boolL padL
    simp only [List.setIfInBounds_toArray]
    congr 1
    rw [List.set_append_right _ _ (by simp)]
    simp [List.map_set, List.set_append, hi]
  · refine h.own.grown (grown_setCell w ⟨g, 2 + i, none⟩ (.bool z)) ?_
    by_cases he : (Value.slice so f.stakes.length c).ownBlock = none
    · exact .inl he
    · exact .inr h.apart
end
end Go.Proofs.Ytoeoneiopcagfaa
