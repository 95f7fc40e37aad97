/- The document's reader: Fail, Read, End, Unfold, each by its walk. -/
import Derived.Test.YtpnliafjiookpaaRdG
namespace Go.Proofs.Ytpnliafjiookpaa
open Go.RowKit

theorem heap_two_old (w : World) (A B : Obj) : ((w.alloc A).alloc B).heap[w.heap.size]? = some A := by
  rw [(below_alloc (w.alloc A) B).block w.heap.size (by simp)]
  exact heap_alloc_new w A
theorem heap_two_new (w : World) (A B : Obj) : ((w.alloc A).alloc B).heap[w.heap.size + 1]? = some B := by
  have h := heap_alloc_new (w.alloc A) B
  simpa using h
theorem z_keep {W w : World} {b : Nat} {o : Obj} {row : Option Nat} (hg : W.grownBy w row) (hz : W.heap[b]? = some o) (hne : row ≠ some b) : w.heap[b]? = some o := by
  rw [hg.block b (by rcases Nat.lt_or_ge b W.heap.size with h | h; exact h; rw [Array.getElem?_eq_none h] at hz; cases hz) (fun e => hne e.symm)]; exact hz
theorem box_cells {t : TypeId} {w : World} {b : Nat} {x0 x1 x2 : Value} (h : w.heap[b]? = some (.cells #[x0, x1, x2] t (0, 0))) :
    w.cell? ⟨b, 0, none⟩ = some x0 ∧ w.cell? ⟨b, 1, none⟩ = some x1 ∧ w.cell? ⟨b, 2, none⟩ = some x2 ∧ (∀ k, w.frozen? ⟨b, k, none⟩ = false) :=
  ⟨by unfold World.cell?; rw [h]; rfl, by unfold World.cell?; rw [h]; rfl, by unfold World.cell?; rw [h]; rfl, fun k => frozen_of_row _ _ _ _ _ h⟩
theorem box_put {t : TypeId} {W : World} {b : Nat} {y0 y1 y2 : Value} (h : W.heap[b]? = some (.cells #[y0, y1, y2] t (0, 0))) (x0 x1 x2 : Value) :
    (((W.setCell ⟨b, 0, none⟩ x0).setCell ⟨b, 1, none⟩ x1).setCell ⟨b, 2, none⟩ x2).heap[b]? = some (.cells #[x0, x1, x2] t (0, 0)) := by
  have h1 : (W.setCell ⟨b, 0, none⟩ x0).heap[b]? = some (.cells #[x0, y1, y2] t (0, 0)) := by rw [heap_set h]; rfl
  have h2 : ((W.setCell ⟨b, 0, none⟩ x0).setCell ⟨b, 1, none⟩ x1).heap[b]? = some (.cells #[x0, x1, y2] t (0, 0)) := by rw [heap_set h1]; rfl
  rw [heap_set h2]; rfl
theorem box_grown (W : World) (b : Nat) (x0 x1 x2 : Value) : W.grownBy (((W.setCell ⟨b, 0, none⟩ x0).setCell ⟨b, 1, none⟩ x1).setCell ⟨b, 2, none⟩ x2) (some b) :=
  grown_trans (grown_trans (grown_setCell W ⟨b, 0, none⟩ x0) (grown_setCell _ ⟨b, 1, none⟩ x1)) (grown_setCell _ ⟨b, 2, none⟩ x2)

set_option maxRecDepth 100000 in
set_option maxHeartbeats 4000000 in
theorem rfail_any {w : World} {bo : Option Addr} {n c : Nat} {at0 e0 e1 : Int} :
    Calls Try.prog 41 #[.agg #[.slice bo n c, .int .i64 at0, .int .i64 e0], .int .i64 e1] w fun e w' => e = .returned (.agg #[.slice bo n c, .int .i64 at0, .int .i64 e1]) ∧ Below w.heap.size w w' := by
  have hb0 : Below w.heap.size w ((w.alloc (.cells #[.slice bo n c, .int .i64 at0, .int .i64 e0] 51 (0, 0))).alloc (.cells #[.slice none 0 0, .int .i64 0, .int .i64 0] 51 (0, 0))) := below_trans (below_alloc w _) (below_alloc _ _)
  have zA := heap_two_old w (.cells #[.slice bo n c, .int .i64 at0, .int .i64 e0] 51 (0, 0)) (.cells #[.slice none 0 0, .int .i64 0, .int .i64 0] 51 (0, 0))
  have zB := heap_two_new w (.cells #[.slice bo n c, .int .i64 at0, .int .i64 e0] 51 (0, 0)) (.cells #[.slice none 0 0, .int .i64 0, .int .i64 0] 51 (0, 0))
  go_enter Try.func41, Try.ntmps41
  go_upto_region 1 with fail
  generalize (w.alloc (.cells #[.slice bo n c, .int .i64 at0, .int .i64 e0] 51 (0, 0))).alloc (.cells #[.slice none 0 0, .int .i64 0, .int .i64 0] 51 (0, 0)) = W0 at *
  obtain ⟨c0, c1, c2, c3⟩ := box_cells zA
  have f2 := c3 2
  have hg1 := grown_setCell W0 ⟨w.heap.size, 2, none⟩ (.int .i64 e1)
  have zA1 : (W0.setCell ⟨w.heap.size, 2, none⟩ (.int .i64 e1)).heap[w.heap.size]? = some (.cells #[.slice bo n c, .int .i64 at0, .int .i64 e1] 51 (0, 0)) := by rw [heap_set zA]; rfl
  have zB1 := z_keep hg1 zB (fun e => by have := Option.some.inj e; simp at this)
  have hb1 := hb0.grown hg1 hb0.size (fun k hk => by cases hk; exact Nat.le_refl _)
  clear c3
  go_upto_region 2 with fail
  generalize W0.setCell ⟨w.heap.size, 2, none⟩ (.int .i64 e1) = W1 at *
  clear c0 c1 c2 f2
  obtain ⟨c0, c1, c2, _⟩ := box_cells zA1
  obtain ⟨d0, d1, d2, d3⟩ := box_cells zB1
  have g0 := d3 0
  have g1 := d3 1
  have g2 := d3 2
  obtain ⟨v0, v1, v2, _⟩ := box_cells (box_put zB1 (.slice bo n c) (.int .i64 at0) (.int .i64 e1))
  have hgr := box_grown W1 (w.heap.size + 1) (.slice bo n c) (.int .i64 at0) (.int .i64 e1)
  clear d3
  go_wp2_with fail
  exact bodyPost_ret (v := .agg #[.slice bo n c, .int .i64 at0, .int .i64 e1]) (by simp [results, Try.results41, asAddr, go_sem, v0, v1, v2]) rfl ⟨rfl, hb1.grown hgr hb1.size (fun k hk => by cases hk; exact Nat.le_succ _)⟩

set_option maxRecDepth 100000 in
set_option maxHeartbeats 4000000 in
theorem unfold_any {n : Nat} {w : World} (hn : U64 n) :
    Calls Try.prog 30 #[.int .u64 n] w fun e w' => e = .returned (.int .i64 (unf n)) ∧ w = w' := by
  unfold U64 at hn
  have h1 : (n : Int) ≤ 18446744073709551615 := by omega
  have k1 : (n : Int).tmod 2 = ((n % 2 : Nat) : Int) := by rw [Int.tmod_eq_emod_of_nonneg (by omega)]; omega
  have k2 : (n : Int).tdiv 2 = ((n / 2 : Nat) : Int) := by rw [Int.tdiv_eq_ediv_of_nonneg (by omega)]; omega
  have k3 : ((n / 2 : Nat) : Int) ≤ 9223372036854775807 := by omega
  by_cases h : n % 2 = 0
  · have t1 : (((n % 2 : Nat) : Int) == 1) = false := by rw [h]; rfl
    have hu : unf n = ((n / 2 : Nat) : Int) := by unfold unf; rw [if_pos h]
    rw [hu]
    clear hu h hn
    generalize n / 2 = q at *
    generalize n % 2 = r at *
    go_enter Try.func30, Try.ntmps30
    go_wp2_with fail
    go_ret
    exact ⟨by first | rfl | (congr 1 <;> simp), rfl⟩
  · have t1 : (((n % 2 : Nat) : Int) == 1) = true := by rw [show n % 2 = 1 by omega]; rfl
    have hu : unf n = -((n / 2 : Nat) : Int) - 1 := by unfold unf; rw [if_neg h]
    rw [hu]
    clear hu h hn
    generalize n / 2 = q at *
    generalize n % 2 = r at *
    go_enter Try.func30, Try.ntmps30
    go_wp2_with fail
    go_ret
    exact ⟨by first | rfl | (congr 1 <;> simp), rfl⟩

set_option maxRecDepth 100000 in
set_option maxHeartbeats 4000000 in
theorem rend_any {w : World} {bo : Option Addr} {n c at0 er : Nat} {xs : List UInt8} (hR : RdB w bo n c xs) (hat : at0 ≤ n) :
    Calls Try.prog 32 #[.agg #[.slice bo n c, .int .i64 at0, .int .i64 er]] w fun e w' => e = .returned (.int .i64 (endR (xs.drop at0, er) : Nat)) ∧ Below w.heap.size w w' := by
  have hl : (xs.drop at0).length = n - at0 := by rw [List.length_drop, hR.len]
  have hb0 := below_alloc w (.cells #[.slice bo n c, .int .i64 at0, .int .i64 er] 51 (0, 0))
  obtain ⟨c0, c1, c2, _⟩ := box_cells (heap_alloc_new w (.cells #[.slice bo n c, .int .i64 at0, .int .i64 er] 51 (0, 0)))
  have hc : (((er : Int) == 0) = false ∧ endR (xs.drop at0, er) = er) ∨ (((er : Int) == 0) = true ∧ (at0 : Int) < n ∧ endR (xs.drop at0, er) = 5) ∨ (((er : Int) == 0) = true ∧ (n : Int) ≤ at0 ∧ endR (xs.drop at0, er) = er) := by
    unfold endR
    by_cases h0 : er = 0
    · right
      by_cases h1 : at0 < n
      · left; exact ⟨by simp [h0], by omega, by rw [if_neg (by simp [h0]), if_pos (by show 0 < (xs.drop at0).length; omega)]⟩
      · right; exact ⟨by simp [h0], by omega, by rw [if_neg (by simp [h0]), if_neg (by show ¬ 0 < (xs.drop at0).length; omega), h0]⟩
    · left; exact ⟨by simp [h0], by rw [if_pos h0]⟩
  have hc0 : (at0 : Int) ≤ n := by omega
  clear hl
  rcases hc with ⟨t1, e⟩ | ⟨t1, t2, e⟩ | ⟨t1, t2, e⟩
  all_goals
    rw [e]
    clear e
    go_enter Try.func32, Try.ntmps32
    go_wp2_with fail
    go_ret
    exact ⟨rfl, hb0⟩
end Go.Proofs.Ytpnliafjiookpaa
