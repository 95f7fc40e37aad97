/- The trials of the layer halve: Tell. -/
import Derived.Test.YtdpcbehgoljgeaaHalA
namespace Go.Proofs.Ytdpcbehgoljgeaa
open Go.RowKit

theorem tri_put {t t' : Tri} {w : World} {base g : Nat} (h : TriP w base g t) (a b c vs : List Value) (hl : vs.length = b.length) (h0 : triL t = a ++ b ++ c) (h1 : triL t' = a ++ vs ++ c) : TriP (w.setCells g a.length vs) base g t' := by
  refine ⟨h.le, ?_⟩
  rw [h1]
  exact heap_put vs b a c hl (by rw [← h0]; exact h.hh)

theorem TriP.setMid {w : World} {base g : Nat} {t : Tri} (h : TriP w base g t) (d : Dig) : TriP (w.setCells g 27 (digL d)) base g { t with mid := d } := by
  have := tri_put (t' := { t with mid := d }) h (spanL t.fro t.steps t.ahead t.behind ++ digL t.prog ++ [.int .i64 t.size]) (digL t.mid) [.bool t.told, .int .i64 t.won] (digL d) (by rw [digL_len, digL_len])
    (by unfold triL; simp only [List.append_assoc]) (by unfold triL; simp only [List.append_assoc])
  simpa [digL_len, spanL] using this

theorem TriP.setSpan {w : World} {base g : Nat} {t : Tri} (h : TriP w base g t) (fro steps : Nat) (c d : Dig) : TriP (w.setCells g 0 (spanL fro steps c d)) base g { t with fro := fro, steps := steps, ahead := c, behind := d } :=
  tri_put (t' := { t with fro := fro, steps := steps, ahead := c, behind := d }) h [] (spanL t.fro t.steps t.ahead t.behind) _ (spanL fro steps c d) (by simp [spanL, digL_len]) rfl rfl

theorem TriP.setTold {w : World} {base g : Nat} {t : Tri} (h : TriP w base g t) (z : Bool) : TriP (w.setCell ⟨g, 35, none⟩ (.bool z)) base g { t with told := z } := by
  refine ⟨h.le, ?_⟩
  rw [heap_set h.hh]
  obtain ⟨f, s, a, b, p, z0, m, td, wn⟩ := t
  obtain ⟨a0, a1, a2, a3, a4, a5, a6, a7, rfl⟩ := dig_ex a
  obtain ⟨b0, b1, b2, b3, b4, b5, b6, b7, rfl⟩ := dig_ex b
  obtain ⟨p0, p1, p2, p3, p4, p5, p6, p7, rfl⟩ := dig_ex p
  obtain ⟨m0, m1, m2, m3, m4, m5, m6, m7, rfl⟩ := dig_ex m
  rfl

/-- What telling a middle makes of a trial, and the error. -/
def tellF (t : Tri) (d : Dig) : Tri × Nat := if askedF t 0 false ≠ 0 then (t, askedF t 0 false) else ({ t with mid := d, told := true }, 0)

theorem box_dig (w : World) (d : Dig) : (w.alloc (.cells (digC d) 28 (0, 0))).rangeAt w.heap.size 0 (digL d) := by
  have := range_of_block (heap_alloc_new w (.cells (digC d) 28 (0, 0))) [] (digL d) [] (by rw [digC_list]; simp)
  simpa using this

set_option maxRecDepth 100000 in
set_option maxHeartbeats 1000000 in
theorem tell_any {w : World} {base g : Nat} {t : Tri} {d : Dig} (h : TriP w base g t) :
    Calls Try.prog 8 #[.pointer (some ⟨g, 0, none⟩), .agg (digC d)] w fun e w' => e = .returned (.int .i64 ((tellF t d).2 : Nat)) ∧ TriP w' base g (tellF t d).1 ∧ w.grownBy w' (some g) := by
  have hb := below_alloc w (.cells (digC d) 28 (0, 0))
  have hr := box_dig w d
  have hlt := h.lt
  have h := h.below hb
  have hc : ((askedF t 0 false : Nat) : Int) = 0 ∧ tellF t d = ({ t with mid := d, told := true }, 0) ∨ (((askedF t 0 false : Nat) : Int) != 0) = true ∧ tellF t d = (t, askedF t 0 false) := by
    unfold tellF
    by_cases h0 : askedF t 0 false = 0
    · left; exact ⟨by omega, by rw [if_neg (by simpa using h0)]⟩
    · right; exact ⟨by simpa using h0, by rw [if_pos h0]⟩
  rcases hc with ⟨t1, t2⟩ | ⟨t1, t2⟩
  all_goals
    rw [t2]
    clear t2
    go_enter Try.func8, Try.ntmps8
    go_wp2_with fail
    generalize w.alloc (.cells (digC d) 28 (0, 0)) = W1 at *
    have hg1 := grown_of_below hb (some g)
    clear hb
    refine (asked_any h).mono ?_
    rintro e w1 ⟨rfl, rfl⟩
    have ht := h.there 27 8 (by omega)
    have h2 := h.setMid d
    have hg2 := grown_trans hg1 (grown_setCells g (digL d) 27 W1)
    obtain ⟨W2, hW2⟩ : ∃ W2, W1.setCells g 27 (digL d) = W2 := ⟨_, rfl⟩
    rw [hW2] at h2 hg2
    have c1 := h2.c_told
    have f1 := frozen_of_row W2 g 35 _ _ h2.hh
    go_wp2_with (first | refine wl_load hr rfl _ rfl rfl ?_ | (refine wl_store d ht rfl _ _ rfl rfl rfl ?_; rw [hW2]))
    go_ret
    first
    | exact ⟨rfl, h2.setTold true, grown_trans hg2 (grown_setCell _ _ _)⟩
    | exact ⟨rfl, h, hg1⟩
end Go.Proofs.Ytdpcbehgoljgeaa
