/- Arguments that hold structs, numbers and lists of them, read. -/
import Derived.Test.YtoeoneiopcagfaaFrame
namespace Go.Proofs.Ytoeoneiopcagfaa
open Go.ChangeShapes Go.WideShapes Go.ChangeAt Go.RowKit

/-- The element that a loop is at. -/
theorem RdS.next {α : Type} {E : El α} {w : World} {ao : Option Addr} {n c : Nat} {l : List α} (h : RdS E w ao n c l) {i : Nat} (hi : i < n) : ∃ x, l[i]? = some x ∧ l.drop i = x :: l.drop (i + 1) ∧ x ∈ l := by
  have hl : i < l.length := by rw [h.len]; exact hi
  exact ⟨l[i], List.getElem?_eq_getElem hl, List.drop_eq_getElem_cons hl, List.getElem_mem hl⟩

theorem RdS.done {α : Type} {E : El α} {w : World} {ao : Option Addr} {n c : Nat} {l : List α} (h : RdS E w ao n c l) {i : Nat} (hi : n ≤ i) : l.drop i = [] := List.drop_of_length_le (by rw [h.len]; exact hi)

/-- A struct opened: each field by its own reading. -/
theorem open_st {H : Type} {enc : TypeId × Value → H} {W : World} {t : TypeId} {fs : Array Field} (hu : Try.prog.underlying t = some (.struct fs)) {fuel : Nat} {cs : List Value} {y : DataW H × List MemPlace}
    (h : Tr H enc W fuel t cs = some y) (hf : Fits t y.1) :
    ∃ n, cs.length = Try.prog.cellsOf t ∧ ∀ (i : Nat) (f : Field), fs[i]? = some f → ∃ y', Tr H enc W n f.type ((cs.drop f.offset).take (Try.prog.cellsOf f.type)) = some y' ∧ Fits f.type y'.1 := by
  obtain ⟨xs, n, _, rfl, hl, hxl, hx⟩ := DataW.trod_struct hu h
  refine ⟨n, hl, fun i f hfi => ?_⟩
  have hi : i < fs.size := (Array.getElem?_eq_some_iff.1 hfi).1
  have hxi : xs[i]? = some (xs[i]'(by omega)) := List.getElem?_eq_getElem _
  refine ⟨xs[i]'(by omega), (hx i f hfi).trans hxi, ?_⟩
  refine fits_each (ts := fs.toList.map (·.type)) (ds := xs.map (·.1)) (fun x hx => hf x ?_) i _ _ (by simp [hfi]) (by simp [hxi])
  simp only [DataW.weights, hu]
  exact hx

/-- A number that an int holds. -/
def I64 (z : Int) : Prop := -9223372036854775808 ≤ z ∧ z ≤ 9223372036854775807

def intE : El Int := ⟨3, 1, fun z => [.int .i64 z]⟩
theorem intE_ok : intE.Ok := ⟨fun _ => rfl, by decide, fun x u hu => by simp [intE] at hu; subst hu; rfl⟩

/-- A number of a list, as a walk reads it. -/
theorem RdS.int {w : World} {ao : Option Addr} {n c : Nat} {l : List Int} (h : RdS intE w ao n c l) {i : Nat} {x : Int} (hx : l[i]? = some x) : ∃ b o, ao = some ⟨b, o, none⟩ ∧ w.cell? ⟨b, o + i, none⟩ = some (.int .i64 x) := by
  obtain ⟨b, o, e, hc⟩ := h.cell intE_ok hx (j := 0) rfl
  exact ⟨b, o, e, by simpa [intE] using hc⟩

theorem sTI : SliceT Try.prog 22 intE.e (.int .i64 0) intE.size 8 := ⟨Try.underlying22, by kernel_rfl, rfl, by decide⟩

theorem flat_replicate {α : Type} {E : El α} (x : α) {u : Value} (hx : E.enc x = [u]) : ∀ n : Nat, (List.replicate n x).flatMap E.enc = List.replicate n u
  | 0 => rfl
  | n + 1 => by rw [List.replicate_succ, List.flatMap_cons, hx, flat_replicate x hx n]; rfl

/-- 'make([]T, n)', of elements of one cell: it is owned. -/
theorem wpList_make1 {α : Type} {E : El α} {P : Program} {w : World} {ops : Array Oper} {rest : List Oper} {o : Oper} {a : Act} {Q : Exit → Act → World → Prop}
    {t : TypeId} {z : Value} {bytes : Nat} (T : SliceT P t E.e z E.size bytes) (hgd : o.guard = none) (s x : Operand) (ho : o.op = .makeSlice t s x) {n : Nat} (hs : a.eval s = .int .i64 n) (hx : a.eval x = .int .i64 n)
    (x0 : α) {u : Value} (h0 : E.enc x0 = [u]) (hz : z.cells = #[u]) (h1 : E.size = 1) (hbytes : bytes * n ≤ 140737488355328) (h63 : n ≤ maxLen)
    (h : ∀ w', OwnS E w' w.heap.size (some ⟨w.heap.size, 0, none⟩) n n (List.replicate n x0) → Below w.heap.size w w' → wpList P ops Q rest (a.put o.dst (.slice (some ⟨w.heap.size, 0, none⟩) n n)) w') : wpList P ops Q (o :: rest) a w := by
  obtain ⟨i, hi, hzz, hsz, hby⟩ := info_parts T.info
  refine wpList_make_full w hgd s x t ho w.heap.size E.e i z E.size T.und hi hzz hsz .i64 .i64 n n n hs hx rfl rfl (by rw [hby]; omega) h63 (Nat.le_refl _) fun w' hown hg => h w' ⟨?_, by simp⟩ (below_of_grown hg)
  rw [hz, h1, Nat.mul_one, toList_madeCells_one] at hown
  rw [flat_replicate x0 h0, h1]
  exact hown

theorem tr_i64 {H : Type} {enc : TypeId × Value → H} {W : World} {t : TypeId} (hu : Try.prog.underlying t = some (.int .i64)) {fuel : Nat} {cs : List Value} {y : DataW H × List MemPlace} (h : Tr H enc W fuel t cs = some y) :
    ∃ z : Int, cs = [.int .i64 z] ∧ I64 z := by
  obtain ⟨z, e, hw⟩ := tr_int hu h
  obtain ⟨h0, h1⟩ := bounds_i64 hw
  exact ⟨z, e, h0, by omega⟩

theorem int_dec (H : Type) (enc : TypeId × Value → H) {W : World} (fuel : Nat) (cs : List Value) (y : DataW H × List MemPlace) (h : Tr H enc W fuel intE.e cs = some y) (_ : cs.length = intE.size) (_ : Fits intE.e y.1) :
    ∃ x, intE.enc x = cs ∧ I64 x := by
  obtain ⟨z, rfl, hz⟩ := tr_i64 Try.underlying3 h
  exact ⟨z, rfl, hz⟩

theorem one_ints {W : World} {v : Value} (h : One W 22 v) : ∃ ao n c l, v = .slice ao n c ∧ RdS intE W ao n c l ∧ (∀ x ∈ l, I64 x) ∧ n ≤ 140737488351232 := by
  obtain ⟨ao, n, c, l, e, hR, hG, _, hb⟩ := one_sl (E := intE) (G := I64) Try.underlying22 (by kernel_rfl) (fun H enc => int_dec H enc) (by decide) h
  have hby : Try.prog.bytesOf intE.e = 8 := by kernel_rfl
  rw [hby] at hb
  unfold reachBytes at hb
  have := hR.cap
  exact ⟨ao, n, c, l, e, hR, hG, by omega⟩

end Go.Proofs.Ytoeoneiopcagfaa
