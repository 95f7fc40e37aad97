/- The trials of the layer halve: New. -/
import Derived.Test.YtdpcbehgoljgeaaHalD
namespace Go.Proofs.Ytdpcbehgoljgeaa
open Go.RowKit

theorem heap_alloc4 (w : World) (A B C D : Obj) : ((((w.alloc A).alloc B).alloc C).alloc D).heap[w.heap.size + 1 + 1 + 1]? = some D := by
  have h := heap_alloc_new (((w.alloc A).alloc B).alloc C) D
  simpa using h

theorem wrap_pow {k : Nat} (hk : k ≤ 20) : wrap64 ((2 : Int) ^ k) = (2 : Int) ^ k := by
  have h : ∀ j : Fin 21, wrap64 ((2 : Int) ^ j.1) = (2 : Int) ^ j.1 := by decide +kernel
  exact h ⟨k, by omega⟩

set_option maxRecDepth 100000 in
set_option maxHeartbeats 4000000 in
theorem new_any {w : World} {p a b : Dig} {size : Int} {k : Nat} (hs : 1 ≤ size) (hs2 : size ≤ 2048) (hk : (k : Int) ≤ 20) :
    Calls Try.prog 5 #[.agg (digC p), .int .i64 size, .int .i64 k, .agg (digC a), .agg (digC b)] w fun e w' => ∃ g, e = .returned (.tuple #[.pointer (some ⟨g, 0, none⟩), .int .i64 0]) ∧
      TriP w' w.heap.size g ⟨0, 2 ^ k, a, b, p, size, dig0, false, -1⟩ ∧ Below w.heap.size w w' := by
  obtain ⟨a0, a1, a2, a3, a4, a5, a6, a7, ha⟩ := dig_ex a
  obtain ⟨b0, b1, b2, b3, b4, b5, b6, b7, hb⟩ := dig_ex b
  obtain ⟨p0, p1, p2, p3, p4, p5, p6, p7, hp⟩ := dig_ex p
  rw [ha, hb, hp]
  clear ha hb hp
  change Calls _ _ #[.agg #[.int .u8 (p0.toNat : Int), .int .u8 (p1.toNat : Int), .int .u8 (p2.toNat : Int), .int .u8 (p3.toNat : Int), .int .u8 (p4.toNat : Int), .int .u8 (p5.toNat : Int), .int .u8 (p6.toNat : Int), .int .u8 (p7.toNat : Int)], .int .i64 size, .int .i64 k,
    .agg #[.int .u8 (a0.toNat : Int), .int .u8 (a1.toNat : Int), .int .u8 (a2.toNat : Int), .int .u8 (a3.toNat : Int), .int .u8 (a4.toNat : Int), .int .u8 (a5.toNat : Int), .int .u8 (a6.toNat : Int), .int .u8 (a7.toNat : Int)],
    .agg #[.int .u8 (b0.toNat : Int), .int .u8 (b1.toNat : Int), .int .u8 (b2.toNat : Int), .int .u8 (b3.toNat : Int), .int .u8 (b4.toNat : Int), .int .u8 (b5.toNat : Int), .int .u8 (b6.toNat : Int), .int .u8 (b7.toNat : Int)]] _ _
  go_enter Try.func5, Try.ntmps5
  have hw := wrap_pow (k := k) (by omega)
  go_wp2_with fail
  go_region
  go_wp2_with fail
  go_ret2
  refine ⟨w.heap.size + 1 + 1 + 1, rfl, ⟨by omega, ?_⟩, (below_trans (below_trans (below_trans (below_alloc w _) (below_alloc _ _)) (below_alloc _ _)) (below_alloc _ _)).drew⟩
  refine (heap_alloc4 w _ _ _ _).trans ?_
  rw [show ((2 : Int) ^ k) = ((2 ^ k : Nat) : Int) by simp]
  rfl
end Go.Proofs.Ytdpcbehgoljgeaa
