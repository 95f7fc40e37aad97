/- The layer fund: all, full, Phase, Back, each by its walk. -/
import Derived.Test.YtoeoneiopcagfaaFundC
import Derived.ChangeKeysEq
import Derived.Deep.RegionHeld3
namespace Go.Proofs.Ytoeoneiopcagfaa
open Go.RowKit

/-- Which are laid, of a fund of n seats that is full. -/
def allB (n : Nat) : List Bool := [decide (0 < n), decide (1 < n), decide (2 < n), decide (3 < n), decide (4 < n), decide (5 < n), decide (6 < n), decide (7 < n)]

theorem allB_is {n : Nat} (h : n ≤ 8) : allB n = List.replicate n true ++ List.replicate (8 - n) false := by
  have key : ∀ n : Fin 9, allB n.1 = List.replicate n.1 true ++ List.replicate (8 - n.1) false := by decide
  exact key ⟨n, by omega⟩

theorem fill_next {i : Nat} (h : i < 8) : (List.replicate i true ++ List.replicate (8 - i) false).set i true = List.replicate (i + 1) true ++ List.replicate (8 - (i + 1)) false := by
  have key : ∀ i : Fin 8, (List.replicate i.1 true ++ List.replicate (8 - i.1) false).set i.1 true = List.replicate (i.1 + 1) true ++ List.replicate (8 - (i.1 + 1)) false := by decide
  exact key ⟨i, h⟩

theorem boolL_one (l : List Bool) : (boolL l).toArray.all (·.oneCell') = true := all_oneCell_toArray fun v hv => by
  obtain ⟨x, _, rfl⟩ := List.mem_map.1 hv
  rfl
theorem boolL_len (l : List Bool) : (boolL l).length = l.length := by simp [boolL]

theorem heap_two_new (w : World) (A B : Obj) : ((w.alloc A).alloc B).heap[w.heap.size + 1]? = some B := by
  have h := heap_alloc_new (w.alloc A) B
  have e : (w.alloc A).heap.size = w.heap.size + 1 := by simp
  rw [e] at h
  exact h

/-- Eight marks lie in a block. -/
structure MarkB (w : World) (b : Nat) (l : List Bool) : Prop where
  len : l.length = 8
  hh : w.heap[b]? = some (.cells (boolL l).toArray 63 (0, 0))

theorem MarkB.range {w : World} {b : Nat} {l : List Bool} (h : MarkB w b l) : w.rangeAt b 0 (boolL l) := by
  have := range_of_block h.hh [] (boolL l) [] (by simp)
  simpa using this
theorem MarkB.cell {w : World} {b i : Nat} {l : List Bool} (h : MarkB w b l) (hi : i < 8) : w.cell? ⟨b, i, none⟩ = some (.bool (l.getD i false)) := by
  have hl : i < l.length := by rw [h.len]; exact hi
  unfold World.cell?; rw [h.hh]
  simp [boolL, List.getElem?_eq_getElem hl]
theorem MarkB.free {w : World} {b : Nat} {l : List Bool} (h : MarkB w b l) (k : Nat) : w.frozen? ⟨b, k, none⟩ = false := frozen_of_row w b k _ _ h.hh
theorem MarkB.lt {w : World} {b : Nat} {l : List Bool} (h : MarkB w b l) : b < w.heap.size := lt_of_block h.hh
theorem MarkB.set {w : World} {b : Nat} {l : List Bool} (h : MarkB w b l) (i : Nat) (z : Bool) : MarkB (w.setCell ⟨b, i, none⟩ (.bool z)) b (l.set i z) := by
  refine ⟨by simpa using h.len, ?_⟩
  rw [heap_set h.hh]
  simp [boolL, List.map_set]
theorem MarkB.there {w : World} {b : Nat} {l : List Bool} (h : MarkB w b l) : w.there b 0 8 := fun j hj => by
  have hl : j < l.length := by rw [h.len]; exact hj
  refine ⟨?_, h.free _⟩
  rw [show 0 + j = j by omega, h.cell hj]
  rfl
theorem MarkB.keep {w w' : World} {b : Nat} {l : List Bool} {row : Option Nat} (h : MarkB w b l) (hg : w.grownBy w' row) (hrow : row ≠ some b) : MarkB w' b l :=
  ⟨h.len, by rw [hg.block b h.lt (fun e => hrow e.symm)]; exact h.hh⟩

theorem mark_loadVar {w : World} {b : Nat} {l : List Bool} (h : MarkB w b l) : (loadVar 63 ⟨b, 0, none⟩).run Try.prog w = .ok (.agg (boolL l).toArray) w :=
  run_loadVar_mid w b 0 _ (boolL l) _ h.range Try.underlying63 rfl (by rw [boolL_len, h.len]; rfl)

set_option maxRecDepth 100000 in
set_option maxHeartbeats 2000000 in
theorem all_any {w : World} {base g n : Nat} {f : FundX} (h : FundP w base g f) (hk : f.Ok) (hn : f.stakes.length = n) :
    Calls Try.prog 41 #[.pointer (some ⟨g, 0, none⟩)] w fun e w' => e = .returned (.agg (boolL (allB n)).toArray) ∧ Below w.heap.size w w' := by
  have hm := hk.most
  rw [hn] at hm
  have HN := hide hn
  clear hn
  have hb1 := below_alloc w (.cells #[.bool false, .bool false, .bool false, .bool false, .bool false, .bool false, .bool false, .bool false] 63 (0, 0))
  have hb2 := below_trans hb1 (below_alloc _ (.cells #[.bool false, .bool false, .bool false, .bool false, .bool false, .bool false, .bool false, .bool false] 63 (0, 0)))
  have m1 : MarkB (w.alloc (.cells #[.bool false, .bool false, .bool false, .bool false, .bool false, .bool false, .bool false, .bool false] 63 (0, 0))) w.heap.size (List.replicate 8 false) := ⟨rfl, heap_alloc_new w _⟩
  have m2 : MarkB ((w.alloc (.cells #[.bool false, .bool false, .bool false, .bool false, .bool false, .bool false, .bool false, .bool false] 63 (0, 0))).alloc (.cells #[.bool false, .bool false, .bool false, .bool false, .bool false, .bool false, .bool false, .bool false] 63 (0, 0))) (w.heap.size + 1) (List.replicate 8 false) := ⟨rfl, heap_two_new w _ _⟩
  have m1 := m1.keep (grown_of_below (below_alloc _ (.cells #[.bool false, .bool false, .bool false, .bool false, .bool false, .bool false, .bool false, .bool false] 63 (0, 0))) none) (fun e => by cases e)
  have h := h.below hb2
  clear hb1
  go_enter Try.func41, Try.ntmps41
  go_upto_region 2 with fail
  generalize (w.alloc (.cells #[.bool false, .bool false, .bool false, .bool false, .bool false, .bool false, .bool false, .bool false] 63 (0, 0))).alloc (.cells #[.bool false, .bool false, .bool false, .bool false, .bool false, .bool false, .bool false, .bool false] 63 (0, 0)) = W0 at *
  obtain ⟨so, sc, hq⟩ := h
  have c0 := hq.c_stakes
  rw [HN.out] at c0
  clear hq
  go_wp2_with fail
  go_loopw [10] (fun v10 wr => ∃ (i : Nat), v10 = .int .i64 i ∧ i ≤ n ∧ MarkB wr w.heap.size (List.replicate 8 false) ∧ MarkB wr (w.heap.size + 1) (List.replicate i true ++ List.replicate (8 - i) false) ∧ Below w.heap.size w wr) (fun v10 _ => n - (intOf v10).toNat)
  case atStart => exact ⟨0, rfl, Nat.zero_le _, m1, m2, hb2⟩
  case round =>
    clear m1 m2 hb2 c0
    obtain ⟨i, rfl, hin, m1, m2, hb⟩ := hrel
    by_cases hlt : i < n
    · have i8 : (i : Int) < 8 := by omega
      have c1 := m2.cell (i := i) (by omega)
      have f1 := m2.free i
      have m3 := m2.set i true
      rw [fill_next (by omega)] at m3
      have hg : wr.grownBy (wr.setCell ⟨w.heap.size + 1, i, none⟩ (.bool true)) (some (w.heap.size + 1)) := grown_setCell _ _ _
      have m4 := m1.keep hg (fun e => by have := Option.some.inj e; omega)
      have hb3 := hb.grown hg hb.size (fun k hk => by cases hk; omega)
      generalize (List.replicate i true ++ List.replicate (8 - i) false).getD i false = z at *
      clear m1 m2 hb hg
      go_wp2_with fail
      go_roundw
      case rel => exact ⟨i + 1, by simp, by omega, m4, m3, hb3⟩
      case measure => simp [intOf]; omega
    · have hie : i = n := by omega
      subst hie
      rw [← allB_is hm] at m2
      have hr := m2.range
      have ht := m1.there
      have hl8 : (boolL (allB i)).length = 8 := by rw [boolL_len]; rfl
      have hg := grown_setCells w.heap.size (boolL (allB i)) 0 wr
      have hb3 := hb.grown hg hb.size (fun k hk => by cases hk; exact Nat.le_refl _)
      have m3 : MarkB (wr.setCells w.heap.size 0 (boolL (allB i))) w.heap.size (allB i) := by
        refine ⟨rfl, ?_⟩
        have := heap_put (g := w.heap.size) (w := wr) (t := 63) (fr := (0, 0)) (boolL (allB i)) (boolL (List.replicate 8 false)) [] [] (by rw [hl8]; rfl) (by simpa using m1.hh)
        simpa using this
      have v1 := mark_loadVar m3
      have HV := hide v1
      clear v1 m1 m2
      obtain ⟨W2, hW2⟩ : ∃ W2, wr.setCells w.heap.size 0 (boolL (allB i)) = W2 := ⟨_, rfl⟩
      rw [hW2] at hb3 HV
      have HW := hide hW2
      clear hW2 hg m3
      obtain ⟨L, hL⟩ : ∃ L, allB i = L := ⟨_, rfl⟩
      rw [hL] at hl8 hr HV HW
      have HL := hide hL
      clear hL
      go_wp2_with (first | refine wpList_load_mid rfl _ _ rfl (w.heap.size + 1) 0 rfl (boolL L) _ hr Try.underlying63 rfl (by rw [hl8]; rfl) ?_ | (refine wpList_store_mid rfl _ _ _ rfl w.heap.size 0 (boolL L).toArray rfl rfl (by rw [show (boolL L).toArray.size = 8 from by simp [hl8]]; exact ht) (by rw [show (boolL L).toArray.size = 8 from by simp [hl8]]; rfl) (boolL_one _) ?_; rw [HW.out]))
      have v1 := HV.out
      exact bodyPost_ret (v := .agg (boolL L).toArray) (by simp [results, Try.results41, asAddr, Act.put, v1]) rfl ⟨by rw [HL.out], hb3⟩
end Go.Proofs.Ytoeoneiopcagfaa
