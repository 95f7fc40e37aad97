/- The layer fund: Clone, by its walk. -/
import Derived.Test.YtoeoneiopcagfaaFundG
namespace Go.Proofs.Ytoeoneiopcagfaa
open Go.RowKit

theorem fundL_len {so : Option Addr} {c : Nat} {f : FundX} (hk : f.Ok) : (fundL so c f).length = 10 := by
  have := padL_len hk.len hk.most
  simp [fundL, boolL, this]

theorem fundL_one {so : Option Addr} {c : Nat} {f : FundX} : (fundL so c f).toArray.all (·.oneCell') = true := all_oneCell_toArray fun v hv => by
  simp only [fundL, boolL, List.mem_append, List.mem_cons, List.not_mem_nil, or_false] at hv
  rcases hv with (rfl | rfl) | hv
  · rfl
  · rfl
  · obtain ⟨x, _, rfl⟩ := List.mem_map.1 hv
    rfl

set_option maxRecDepth 100000 in
set_option maxHeartbeats 2000000 in
theorem clone_any {w : World} {base g : Nat} {f : FundX} (h : FundP w base g f) (hk : f.Ok) :
    Calls Try.prog 26 #[.pointer (some ⟨g, 0, none⟩)] w fun e w' => ∃ g', e = .returned (.pointer (some ⟨g', 0, none⟩)) ∧ FundP w' w.heap.size g' f ∧ Below w.heap.size w w' := by
  obtain ⟨so, sc, hq⟩ := h
  have hl := fundL_len (so := so) (c := sc) hk
  have hm := hk.most
  have hr : w.rangeAt g 0 (fundL so sc f) := by
    have := range_of_block hq.hh [] (fundL so sc f) [] (by simp)
    simpa using this
  obtain ⟨Z, hZ⟩ : ∃ Z : Array Value, Z = #[Value.slice none 0 0, .int .i64 0, .bool false, .bool false, .bool false, .bool false, .bool false, .bool false, .bool false, .bool false] := ⟨_, rfl⟩
  obtain ⟨W1, hW1⟩ : ∃ W1, w.alloc (.cells Z 65 (0, 0)) = W1 := ⟨_, rfl⟩
  have hb : W1.heap[w.heap.size]? = some (.cells Z 65 (0, 0)) := by rw [← hW1]; exact heap_alloc_new w _
  have ht : W1.there w.heap.size 0 (fundL so sc f).toArray.size := fun j hj => by
    refine ⟨?_, frozen_of_row _ _ _ _ _ hb⟩
    rw [cell_of_row _ _ _ _ _ _ hb]
    have : j < 10 := by simpa [hl] using hj
    rw [hZ]
    rw [Array.getElem?_eq_getElem (by simp; omega)]
    rfl
  have hbel : Below w.heap.size w W1 := by rw [← hW1]; exact below_alloc w _
  have hg := grown_setCells w.heap.size (fundL so sc f) 0 W1
  have hput : (W1.setCells w.heap.size 0 (fundL so sc f)).heap[w.heap.size]? = some (.cells (fundL so sc f).toArray 65 (0, 0)) := by
    have := heap_put (g := w.heap.size) (w := W1) (t := 65) (fr := (0, 0)) (fundL so sc f) Z.toList [] [] (by rw [hl, hZ]; rfl) (by rw [hb]; simp)
    simpa using this
  have hbel2 := hbel.grown hg hbel.size (fun k hk => by cases hk; exact Nat.le_refl _)
  obtain ⟨W2, hW2⟩ : ∃ W2, W1.setCells w.heap.size 0 (fundL so sc f) = W2 := ⟨_, rfl⟩
  rw [hW2] at hput hbel2
  have hq2 := hq.below hbel2
  have c0 := hq2.c_stakes
  have HW2 := hide hW2
  subst hZ
  clear hW2 hg
  go_enter Try.func26, Try.ntmps26
  go_wp2_with (first | refine wpList_load_mid rfl _ _ rfl g 0 rfl (fundL so sc f) _ hr Try.underlying65 rfl (by rw [hl]; rfl) ?_ | (refine wpList_store_mid rfl _ _ _ rfl w.heap.size 0 (fundL so sc f).toArray rfl rfl ht (by rw [show (fundL so sc f).toArray.size = 10 from by simp [hl]]; rfl) fundL_one ?_; rw [HW2.out]))
  refine (cloneI_any hq2.own.rd (by omega)).mono ?_
  rintro e w3 ⟨a3, c3, rfl, ho3, hb3⟩
  have hlt : w.heap.size < W2.heap.size := lt_of_block hput
  have hput3 : w3.heap[w.heap.size]? = some (.cells (fundL so sc f).toArray 65 (0, 0)) := by rw [hb3.block _ hlt]; exact hput
  have d0 : w3.cell? ⟨w.heap.size, 0, none⟩ = some (.slice so f.stakes.length sc) := by unfold World.cell?; rw [hput3]; rfl
  have f0 : w3.frozen? ⟨w.heap.size, 0, none⟩ = false := frozen_of_row _ _ _ _ _ hput3
  have hput4 : (w3.setCell ⟨w.heap.size, 0, none⟩ (.slice a3 f.stakes.length c3)).heap[w.heap.size]? = some (.cells (fundL a3 c3 f).toArray 65 (0, 0)) := by
    rw [heap_set hput3]
    rfl
  have hg4 : w3.grownBy (w3.setCell ⟨w.heap.size, 0, none⟩ (.slice a3 f.stakes.length c3)) (some w.heap.size) := grown_setCell _ _ _
  have hap : (Value.slice a3 f.stakes.length c3).ownBlock = none ∨ (Value.slice a3 f.stakes.length c3).ownBlock ≠ some w.heap.size := by
    cases a3 with
    | none => exact .inl rfl
    | some ad =>
      obtain ⟨g3, rfl, hx, _⟩ := ho3.addr ad rfl
      refine .inr ?_
      simp [Value.ownBlock]
      omega
  have ho4 := (ho3.grown hg4 hap).mono (base' := w.heap.size) (by omega)
  have hb4 := (below_trans hbel2 hb3).grown hg4 (Nat.le_trans hbel2.size hb3.size) (fun k hk => by cases hk; exact Nat.le_refl _)
  have hap2 : (Value.slice a3 f.stakes.length c3).ownBlock ≠ some w.heap.size := by
    rcases hap with e | e
    · rw [e]; intro h; cases h
    · exact e
  have HQ := hide (show FundQ (w3.setCell ⟨w.heap.size, 0, none⟩ (.slice a3 f.stakes.length c3)) w.heap.size w.heap.size a3 c3 f from ⟨Nat.le_refl _, hput4, ho4, hap2⟩)
  have HB := hide hb4
  clear hput4 hg4 hap ho4 hb4 hap2 hput3 hput hq2 hq c0 hr ht
  go_wp2_with fail
  go_ret
  exact ⟨w.heap.size, rfl, ⟨_, _, HQ.out⟩, HB.out⟩
end Go.Proofs.Ytoeoneiopcagfaa
