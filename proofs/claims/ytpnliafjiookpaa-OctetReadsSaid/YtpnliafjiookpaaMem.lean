/- Small laws on blocks, of no program. -/
import Derived.Test.YtpnliafjiookpaaBase
import Derived.Deep.MidRow
namespace Go.Proofs.Ytpnliafjiookpaa
open Go.RowKit

theorem below_alloc (w : World) (o : Obj) : Below w.heap.size w (w.alloc o) := (Below.refl _ _).alloc (Nat.le_refl _) _

theorem heap_set {w : World} {g : Nat} {cs : Array Value} {t : TypeId} {fr : Nat × Nat} (h : w.heap[g]? = some (.cells cs t fr)) (j : Nat) (u : Value) : (w.setCell ⟨g, j, none⟩ u).heap[g]? = some (.cells (cs.setIfInBounds j u) t fr) := by
  have hlt := lt_of_block h
  have h' : w.heap[g] = .cells cs t fr := by simpa [Array.getElem?_eq_getElem hlt] using h
  show (w.heap.modify g _)[g]? = _
  rw [Array.getElem?_eq_getElem (by simpa using hlt), Array.getElem_modify_self, h']
  rfl

theorem cell_past2 {w : World} {a : Addr} {v : Value} (h : w.cell? a = some v) (o o' : Obj) : ((w.alloc o).alloc o').cell? a = some v := by
  have h1 := World.block_lt_of_cell? w a h
  have hb : Below w.heap.size w ((w.alloc o).alloc o') := below_trans (below_alloc w o) (below_alloc _ o')
  rw [hb.cell h1]; exact h

theorem free_past2 {w : World} {a : Addr} (ha : a.block < w.heap.size) (h : w.frozen? a = false) (o o' : Obj) : ((w.alloc o).alloc o').frozen? a = false := by
  have hb : Below w.heap.size w ((w.alloc o).alloc o') := below_trans (below_alloc w o) (below_alloc _ o')
  rw [hb.frozen ha]; exact h

/-- Cells in the middle of a block, written. -/
theorem heap_put {g : Nat} {t : TypeId} {fr : Nat × Nat} : ∀ (vs b a c : List Value) {w : World}, vs.length = b.length → w.heap[g]? = some (.cells (a ++ b ++ c).toArray t fr) →
    (w.setCells g a.length vs).heap[g]? = some (.cells (a ++ vs ++ c).toArray t fr) := by
  intro vs
  induction vs with
  | nil =>
    intro b a c w hl h
    cases b with
    | nil => exact h
    | cons x b => cases hl
  | cons v vs ih =>
    intro b a c w hl h
    cases b with
    | nil => cases hl
    | cons x b =>
      have e : (a ++ x :: b ++ c).toArray.setIfInBounds a.length v = ((a ++ [v]) ++ b ++ c).toArray := by
        simp [List.set_append_right]
      have h1 := heap_set h a.length v
      rw [e] at h1
      have h2 := ih b (a ++ [v]) c (by simpa using hl) h1
      rw [List.length_append] at h2
      rw [World.setCells]
      simpa using h2

theorem grown_setCells (g : Nat) : ∀ (vs : List Value) (o : Nat) (w : World), w.grownBy (w.setCells g o vs) (some g)
  | [], _, w => grown_of_below (Below.refl _ w) _
  | v :: vs, o, w => grown_trans (grown_setCell w ⟨g, o, none⟩ v) (grown_setCells g vs (o + 1) _)

/-- A block known whole: its part from o on lies there; it may be written. -/
theorem range_of_block {w : World} {g : Nat} {cs : Array Value} {t : TypeId} {fr : Nat × Nat} (h : w.heap[g]? = some (.cells cs t fr)) (a b c : List Value) (hc : cs.toList = a ++ b ++ c) : w.rangeAt g a.length b := fun j v hv => by
  have hj : j < b.length := (List.getElem?_eq_some_iff.1 hv).1
  rw [World.cell?, h]
  simp only [Option.isSome_none, Bool.false_eq_true, if_false]
  rw [← Array.getElem?_toList, hc, List.append_assoc, List.getElem?_append_right (by omega), List.getElem?_append_left (by omega), ← hv]
  congr 1
  omega

end Go.Proofs.Ytpnliafjiookpaa
