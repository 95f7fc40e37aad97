/- The chapter's example of the layer halve is so: 'told' answers true. -/
import Derived.Test.YtdpcbehgoljgeaaHalE
namespace Go.Proofs.Ytdpcbehgoljgeaa
open Go.RowKit

abbrev zDig : Obj := .cells (digC dig0) 28 (0, 0)

theorem two_there1 (w : World) : ((w.alloc zDig).alloc zDig).there w.heap.size 0 8 := fun j hj => by
  have n1 := heap_alloc2_old w zDig zDig
  exact ⟨by rw [cell_of_row _ _ _ _ _ _ n1]; simp; omega, frozen_of_row _ _ _ _ _ n1⟩
theorem two_there2 (w : World) (a : Dig) : (((w.alloc zDig).alloc zDig).setCells w.heap.size 0 (digL a)).there (w.heap.size + 1) 0 8 := by
  refine World.there_setCells (fun j hj => ?_) _ _ _
  have n1 := heap_alloc2_new w zDig zDig
  exact ⟨by rw [cell_of_row _ _ _ _ _ _ n1]; simp; omega, frozen_of_row _ _ _ _ _ n1⟩

/-- Two new digests. -/
def twoW (w : World) (a b : Dig) : World := (((w.alloc zDig).alloc zDig).setCells w.heap.size 0 (digL a)).setCells (w.heap.size + 1) 0 (digL b)

theorem two_digs (w : World) (a b : Dig) : Below w.heap.size w (twoW w a b) ∧ (twoW w a b).rangeAt w.heap.size 0 (digL a) ∧ (twoW w a b).rangeAt (w.heap.size + 1) 0 (digL b) := by
  have hb := below_trans (below_alloc w zDig) (below_alloc _ zDig)
  have r1 := World.rangeAt_setCells_same ((w.alloc zDig).alloc zDig) w.heap.size 0 (digL a) (by rw [digL_len]; exact two_there1 w)
  have hW := hb.grown (grown_setCells w.heap.size (digL a) 0 _) hb.size (fun k hk => by cases hk; omega)
  exact ⟨hW.grown (grown_setCells (w.heap.size + 1) (digL b) 0 _) hW.size (fun k hk => by cases hk; omega), World.rangeAt_setCells_apart r1 (w.heap.size + 1) 0 (digL b) (.inl (by omega)),
    World.rangeAt_setCells_same _ _ _ _ (by rw [digL_len]; exact two_there2 w a)⟩

theorem two_named (w : World) (a b : Dig) : ∃ W1 W2 W3, (w.alloc (.cells (digC dig0) 28 (0, 0))).alloc (.cells (digC dig0) 28 (0, 0)) = W1 ∧ W1.setCells w.heap.size 0 (digL a) = W2 ∧ W2.setCells (w.heap.size + 1) 0 (digL b) = W3 ∧
    W1.there w.heap.size 0 8 ∧ W2.there (w.heap.size + 1) 0 8 ∧ Below w.heap.size w W3 ∧ W3.rangeAt w.heap.size 0 (digL a) ∧ W3.rangeAt (w.heap.size + 1) 0 (digL b) := by
  have h := two_digs w a b
  exact ⟨_, _, _, rfl, rfl, rfl, two_there1 w, two_there2 w a, h⟩

theorem wl_loadG {ops : Array Oper} {rest : List Oper} {op : Oper} {a : Act} {w : World} {Q : Exit → Act → World → Prop} {b o : Nat} {d : Dig} (hc : w.rangeAt b o (digL d)) (x : Operand) (ho : op.op = .load 28 x) (hgd : Region.wanted op (yielded ops a.tmps) = true)
    (hx : a.eval x = .pointer (some ⟨b, o, none⟩)) (h : wpList Try.prog ops Q rest (a.put op.dst (.agg (digC d))) w) : wpList Try.prog ops Q (op :: rest) a w :=
  wpList_step fun K hK => by
    rw [if_pos hgd]
    exact wp_load_mid _ x ho b o hx (digL d) _ hc Try.underlying28 rfl (by rw [digL_len]; rfl) (hK _ _ h)

set_option maxRecDepth 100000 in
set_option maxHeartbeats 4000000 in
theorem told_any (w : World) : Calls Try.prog 6 #[] w fun e w' => e = .returned (.bool true) ∧ Below w.heap.size w w' := by
  have d0 : #[Value.int .u8 0, .int .u8 0, .int .u8 0, .int .u8 0, .int .u8 0, .int .u8 0, .int .u8 0, .int .u8 0] = digC dig0 := rfl
  have d1 : (digC dig0).setIfInBounds 0 (.int .u8 1) = digC (dig1 1) := rfl
  have d2 : (digC dig0).setIfInBounds 0 (.int .u8 2) = digC (dig1 2) := rfl
  have d3 : (digC dig0).setIfInBounds 0 (.int .u8 3) = digC (dig1 3) := rfl
  have d4 : (digC dig0).setIfInBounds 0 (.int .u8 4) = digC (dig1 4) := rfl
  have d5 : (digC dig0).setIfInBounds 0 (.int .u8 5) = digC (dig1 5) := rfl
  go_enter Try.func6, Try.ntmps6
  go_wp2_with fail
  refine (new_any (p := dig1 1) (a := dig1 2) (b := dig1 3) (size := 5) (k := 2) (by omega) (by omega) (by omega)).mono ?_
  rintro e w1 ⟨g, rfl, h, hb⟩
  go_wp2_with fail
  refine (tell_any (d := dig1 4) h).mono ?_
  rintro e w2 ⟨rfl, h, hg⟩
  rw [show tellF ⟨0, 2 ^ 2, dig1 2, dig1 3, dig1 1, 5, dig0, false, -1⟩ (dig1 4) = (⟨0, 2 ^ 2, dig1 2, dig1 3, dig1 1, 5, dig1 4, true, -1⟩, 0) from rfl] at h ⊢
  have hb := hb.grown hg hb.size (fun k hk => by cases hk; exact h.le)
  go_wp2_with fail
  refine (choose_any (f := false) h (by simp) (by simp)).mono ?_
  rintro e w3 ⟨rfl, h, hg⟩
  rw [show chooseF ⟨0, 2 ^ 2, dig1 2, dig1 3, dig1 1, 5, dig1 4, true, -1⟩ false = (⟨2, 2, dig1 4, dig1 3, dig1 1, 5, dig0, false, -1⟩, 0) from rfl] at h ⊢
  have hb := hb.grown hg hb.size (fun k hk => by cases hk; exact h.le)
  go_wp2_with fail
  refine (tell_any (d := dig1 5) h).mono ?_
  rintro e w4 ⟨rfl, h, hg⟩
  rw [show tellF ⟨2, 2, dig1 4, dig1 3, dig1 1, 5, dig0, false, -1⟩ (dig1 5) = (⟨2, 2, dig1 4, dig1 3, dig1 1, 5, dig1 5, true, -1⟩, 0) from rfl] at h ⊢
  have hb := hb.grown hg hb.size (fun k hk => by cases hk; exact h.le)
  go_wp2_with fail
  refine (choose_any (f := true) h (by simp) (by simp)).mono ?_
  rintro e w5 ⟨rfl, h, hg⟩
  rw [show chooseF ⟨2, 2, dig1 4, dig1 3, dig1 1, 5, dig1 5, true, -1⟩ true = (⟨2, 1, dig1 4, dig1 5, dig1 1, 5, dig0, false, -1⟩, 0) from rfl] at h ⊢
  have hb := hb.grown hg hb.size (fun k hk => by cases hk; exact h.le)
  go_wp2_with fail
  refine (span_any h).mono ?_
  rintro e w6 ⟨rfl, hb6⟩
  have h := h.below hb6
  have hb := below_trans hb hb6
  obtain ⟨W1, W2, W3, e1, e2, e3, t1, t2, hb7, r1, r2⟩ := two_named w6 (dig1 4) (dig1 5)
  have h := h.below hb7
  have hb := below_trans hb hb7
  rw [spanV]
  go_wp2_with (first | (refine wl_store (dig1 4) t1 rfl _ _ rfl rfl rfl ?_; rw [e2]) | (refine wl_store (dig1 5) t2 rfl _ _ rfl rfl rfl ?_; rw [e3]) | refine wl_loadG r1 _ rfl rfl rfl ?_ | refine wl_loadG r2 _ rfl rfl rfl ?_)
  refine (turn_any h).mono ?_
  rintro e w8 ⟨rfl, rfl⟩
  rw [show turnF ⟨2, 1, dig1 4, dig1 5, dig1 1, 5, dig0, false, -1⟩ = 0 from rfl]
  go_wp2_with fail
  refine (silence_any h).mono ?_
  rintro e w9 ⟨rfl, h, hg⟩
  rw [show silenceF ⟨2, 1, dig1 4, dig1 5, dig1 1, 5, dig0, false, -1⟩ = (⟨2, 1, dig1 4, dig1 5, dig1 1, 5, dig0, false, 1⟩, 0) from rfl] at h ⊢
  have hb := hb.grown hg hb.size (fun k hk => by cases hk; exact h.le)
  go_wp2_with fail
  refine (winner_any h).mono ?_
  rintro e w10 ⟨rfl, rfl⟩
  go_wp2_with fail
  refine (turn_any h).mono ?_
  rintro e w8 ⟨rfl, rfl⟩
  rw [show turnF ⟨2, 1, dig1 4, dig1 5, dig1 1, 5, dig0, false, 1⟩ = -1 from rfl]
  go_wp2_with fail
  go_ret
  exact ⟨rfl, hb⟩
end Go.Proofs.Ytdpcbehgoljgeaa
