/- The trials of the layer halve: Span and New. -/
import Derived.Test.YtdpcbehgoljgeaaHalC
namespace Go.Proofs.Ytdpcbehgoljgeaa
open Go.RowKit

def spanV (t : Tri) : Value := .tuple #[.int .i64 t.fro, .int .i64 t.steps, .agg (digC t.ahead), .agg (digC t.behind)]

theorem dig_loadVar {w : World} {b o : Nat} {d : Dig} (h : w.rangeAt b o (digL d)) : (loadVar 28 ⟨b, o, none⟩).run Try.prog w = .ok (.agg (digC d)) w :=
  run_loadVar_mid w b o _ (digL d) _ h Try.underlying28 rfl (by rw [digL_len]; rfl)

set_option maxRecDepth 100000 in
set_option maxHeartbeats 4000000 in
theorem span_any {w : World} {base g : Nat} {t : Tri} (h : TriP w base g t) :
    Calls Try.prog 7 #[.pointer (some ⟨g, 0, none⟩)] w fun e w' => e = .returned (spanV t) ∧ Below w.heap.size w w' := by
  go_enter Try.func7, Try.ntmps7
  go_wp2_with fail
  have hb1 := below_alloc w (.cells (digC dig0) 28 (0, 0))
  have hb2 := below_trans hb1 (below_alloc _ (.cells (digC dig0) 28 (0, 0)))
  have hb3 : Below w.heap.size w ((w.alloc (.cells (digC dig0) 28 (0, 0))).alloc (.cells (digC dig0) 28 (0, 0))).drew := hb2.drew
  have n1 := heap_alloc2_old w (.cells (digC dig0) 28 (0, 0)) (.cells (digC dig0) 28 (0, 0))
  have n2 := heap_alloc2_new w (.cells (digC dig0) 28 (0, 0)) (.cells (digC dig0) 28 (0, 0))
  change Code.wp _ _ _ _ ((w.alloc (.cells (digC dig0) 28 (0, 0))).alloc (.cells (digC dig0) 28 (0, 0)))
  generalize (w.alloc (.cells (digC dig0) 28 (0, 0))).alloc (.cells (digC dig0) 28 (0, 0)) = W0 at *
  clear hb1
  have h0 := h
  have h := h.below hb2
  have c0 := h.c_fro
  have c1 := h.c_steps
  have hA := h.r_ahead
  have hB := h.r_behind
  obtain ⟨a0, a1, a2, a3, a4, a5, a6, a7, ha⟩ := dig_ex t.ahead
  obtain ⟨b0, b1, b2, b3, b4, b5, b6, b7, hb⟩ := dig_ex t.behind
  rw [ha] at hA
  rw [hb] at hB
  have e0 := hA 0 _ rfl
  have e1 := hA 1 _ rfl
  have e2 := hA 2 _ rfl
  have e3 := hA 3 _ rfl
  have e4 := hA 4 _ rfl
  have e5 := hA 5 _ rfl
  have e6 := hA 6 _ rfl
  have e7 := hA 7 _ rfl
  simp only [Nat.reduceAdd, Extern.Stop.cell] at e0 e1 e2 e3 e4 e5 e6 e7
  have q0 := hB 0 _ rfl
  have q1 := hB 1 _ rfl
  have q2 := hB 2 _ rfl
  have q3 := hB 3 _ rfl
  have q4 := hB 4 _ rfl
  have q5 := hB 5 _ rfl
  have q6 := hB 6 _ rfl
  have q7 := hB 7 _ rfl
  simp only [Nat.reduceAdd, Extern.Stop.cell] at q0 q1 q2 q3 q4 q5 q6 q7
  clear hA hB
  have HA := hide ha
  have HB := hide hb
  clear ha hb
  have t1 : W0.there w.heap.size 0 8 := fun j hj => ⟨by rw [cell_of_row W0 _ _ _ _ _ n1]; simp; omega, frozen_of_row _ _ _ _ _ n1⟩
  have t2 : W0.there (w.heap.size + 1) 0 8 := fun j hj => ⟨by rw [cell_of_row W0 _ _ _ _ _ n2]; simp; omega, frozen_of_row _ _ _ _ _ n2⟩
  have hne1 : g ≠ w.heap.size := fun e => by have := h0.lt; omega
  have hne2 : g ≠ w.heap.size + 1 := fun e => by have := h0.lt; omega
  have z0 : ∀ j, j < 8 → W0.cell? ⟨w.heap.size, j, none⟩ = some (.int .u8 0) := fun j hj => by
    rw [cell_of_row W0 _ _ _ _ _ n1]
    match j, hj with
    | 0, _ | 1, _ | 2, _ | 3, _ | 4, _ | 5, _ | 6, _ | 7, _ => rfl
  have z1 : ∀ j, j < 8 → W0.cell? ⟨w.heap.size + 1, j, none⟩ = some (.int .u8 0) := fun j hj => by
    rw [cell_of_row W0 _ _ _ _ _ n2]
    match j, hj with
    | 0, _ | 1, _ | 2, _ | 3, _ | 4, _ | 5, _ | 6, _ | 7, _ => rfl
  have y0 := z0 0 (by omega)
  have y1 := z0 1 (by omega)
  have y2 := z0 2 (by omega)
  have y3 := z0 3 (by omega)
  have y4 := z0 4 (by omega)
  have y5 := z0 5 (by omega)
  have y6 := z0 6 (by omega)
  have y7 := z0 7 (by omega)
  have x0 := z1 0 (by omega)
  have x1 := z1 1 (by omega)
  have x2 := z1 2 (by omega)
  have x3 := z1 3 (by omega)
  have x4 := z1 4 (by omega)
  have x5 := z1 5 (by omega)
  have x6 := z1 6 (by omega)
  have x7 := z1 7 (by omega)
  have f0 : ∀ j, W0.frozen? ⟨w.heap.size, j, none⟩ = false := fun j => frozen_of_row _ _ _ _ _ n1
  have f1 : ∀ j, W0.frozen? ⟨w.heap.size + 1, j, none⟩ = false := fun j => frozen_of_row _ _ _ _ _ n2
  have HT := hide (And.intro t1 (And.intro t2 (And.intro n1 n2)))
  clear t1 t2 z0 z1 n1 n2
  go_region
  change Exit.then _ _ _ _ ((W0.setCells w.heap.size 0 (digL ⟨[a0, a1, a2, a3, a4, a5, a6, a7], rfl⟩)).setCells (w.heap.size + 1) 0 (digL ⟨[b0, b1, b2, b3, b4, b5, b6, b7], rfl⟩)).drew
  rw [← HA.out, ← HB.out]
  have r1 := World.rangeAt_setCells_same W0 w.heap.size 0 (digL t.ahead) (by rw [digL_len]; exact HT.out.1)
  have r1 := World.rangeAt_setCells_apart r1 (w.heap.size + 1) 0 (digL t.behind) (.inl (by omega))
  have r2 := World.rangeAt_setCells_same (W0.setCells w.heap.size 0 (digL t.ahead)) (w.heap.size + 1) 0 (digL t.behind) (by rw [digL_len]; exact World.there_setCells HT.out.2.1 _ _ _)
  have hW := hb2.grown (grown_setCells w.heap.size (digL t.ahead) 0 W0) hb2.size (fun k hk => by cases hk; omega)
  have hW := hW.grown (grown_setCells (w.heap.size + 1) (digL t.behind) 0 _) hW.size (fun k hk => by cases hk; omega)
  have hW : Below w.heap.size w ((W0.setCells w.heap.size 0 (digL t.ahead)).setCells (w.heap.size + 1) 0 (digL t.behind)).drew := hW.drew
  have r1 := (World.rangeAt_drew _ _ _ _).2 r1
  have r2 := (World.rangeAt_drew _ _ _ _).2 r2
  clear e0 e1 e2 e3 e4 e5 e6 e7 q0 q1 q2 q3 q4 q5 q6 q7 x0 x1 x2 x3 x4 x5 x6 x7 y0 y1 y2 y3 y4 y5 y6 y7 f0 f1 c0 c1
  generalize ((W0.setCells w.heap.size 0 (digL t.ahead)).setCells (w.heap.size + 1) 0 (digL t.behind)).drew = W3 at *
  have v1 := dig_loadVar r1
  have v2 := dig_loadVar r2
  clear r1 r2
  go_wp2_with fail
  exact bodyPost_ret (v := spanV t) (by simp [results, Try.results7, asAddr, v1, v2, spanV]) rfl ⟨rfl, hW⟩
end Go.Proofs.Ytdpcbehgoljgeaa
