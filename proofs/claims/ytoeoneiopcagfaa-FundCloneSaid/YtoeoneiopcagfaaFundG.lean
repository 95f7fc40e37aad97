/- The layer fund: Phase, Back, each by its walk; what is told of the example. -/
import Derived.Test.YtoeoneiopcagfaaFundE
import Derived.Test.YtoeoneiopcagfaaAlike
namespace Go.Proofs.Ytoeoneiopcagfaa
open Go.RowKit

set_option maxRecDepth 100000 in
set_option maxHeartbeats 2000000 in
theorem phase_any {w : World} {base g : Nat} {f : FundX} {now : Int} (h : FundP w base g f) (hk : f.Ok) :
    Calls Try.prog 17 #[.pointer (some ⟨g, 0, none⟩), .int .i64 now] w fun e w' => e = .returned (.int .i64 (phaseF f now)) ∧ Below w.heap.size w w' := by
  have hfull := full_any h hk
  cases hf : fullF f
  · rw [hf] at hfull
    by_cases t1 : f.due < now
    · have hp : phaseF f now = 2 := by unfold phaseF; rw [if_neg (by simp [hf]), if_pos t1]
      rw [hp]
      clear hp hf
      go_enter Try.func17, Try.ntmps17
      go_wp2_with fail
      refine hfull.mono ?_
      rintro e w1 ⟨rfl, hb⟩
      obtain ⟨so, sc, hq⟩ := h.below hb
      have c1 := hq.c_due
      clear hq hfull
      go_wp2_with fail
      go_ret
      exact ⟨rfl, hb⟩
    · have hp : phaseF f now = 0 := by unfold phaseF; rw [if_neg (by simp [hf]), if_neg t1]
      rw [hp]
      have t1 : now ≤ f.due := by omega
      clear hp hf
      go_enter Try.func17, Try.ntmps17
      go_wp2_with fail
      refine hfull.mono ?_
      rintro e w1 ⟨rfl, hb⟩
      obtain ⟨so, sc, hq⟩ := h.below hb
      have c1 := hq.c_due
      clear hq hfull
      go_wp2_with fail
      go_ret
      exact ⟨rfl, hb⟩
  · rw [hf] at hfull
    have hp : phaseF f now = 1 := by unfold phaseF; rw [if_pos hf]
    rw [hp]
    clear hp hf
    go_enter Try.func17, Try.ntmps17
    go_wp2_with fail
    refine hfull.mono ?_
    rintro e w1 ⟨rfl, hb⟩
    clear hfull
    go_wp2_with fail
    go_ret
    exact ⟨rfl, hb⟩

set_option maxRecDepth 100000 in
set_option maxHeartbeats 4000000 in
theorem back_anyQ {w : World} {base g sc : Nat} {so : Option Addr} {f : FundX} {seat now : Int} (h : FundQ w base g so sc f) (hk : f.Ok) :
    Calls Try.prog 19 #[.pointer (some ⟨g, 0, none⟩), .int .i64 seat, .int .i64 now] w fun e w' => e = .returned (.tuple #[.int .i64 (backF f seat).2.1, .int .i64 (backF f seat).2.2]) ∧ FundQ w' base g so sc (backF f seat).1 ∧ w.grownBy w' (some g) := by
  have hfull := full_any ⟨_, _, h⟩ hk
  have hP := h
  have hth := there_any (seat := seat) h
  by_cases ht : thereF f.stakes.length seat = true
  · obtain ⟨k, rfl, hkl⟩ := there_iff.1 ht
    rw [ht] at hth
    have hk2 : k < f.laid.length := by rw [hk.len]; exact hkl
    have c2 := h.c_laid hk2
    have hm := hk.most
    have i8 : (k : Int) < 8 := by omega
    have il : (k : Int) < (f.stakes.length : Int) := by omega
    have hl : backF f k = if f.laid.getD k false = false then (f, 0, 9) else if fullF f = true then (f, 0, 10) else ({ f with laid := f.laid.set k false }, f.stakes.getD k 0, 0) := by
      unfold backF; rw [if_neg (by rw [ht]; simp)]; rfl
    rw [hl]
    clear hl ht
    cases t2 : f.laid.getD k false
    · rw [t2] at c2
      clear t2
      simp only [if_true]
      go_enter Try.func19, Try.ntmps19
      go_wp2_with fail
      refine hth.mono ?_
      rintro e w1 ⟨rfl, rfl⟩
      go_wp2_with fail
      go_ret2
      exact ⟨rfl, hP, grown_of_below (Below.refl _ _) _⟩
    · rw [t2] at c2
      clear t2
      simp only [Bool.true_eq_false, if_false]
      cases t3 : fullF f
      · rw [t3] at hfull
        clear t3
        simp only [Bool.false_eq_true, if_false]
        go_enter Try.func19, Try.ntmps19
        go_wp2_with fail
        refine hth.mono ?_
        rintro e w1 ⟨rfl, rfl⟩
        go_wp2_with fail
        refine hfull.mono ?_
        rintro e w1 ⟨rfl, hb⟩
        clear c2 hth hfull
        have h := h.below hb
        have c2 := h.c_laid hk2
        have f2 := h.free (2 + k)
        have h2 := h.setLaid hk2 false
        have c0 := h2.c_stakes
        obtain ⟨b, o, hso, c3⟩ := h2.own.rd.int (getD_some (d := 0) hkl)
        have hgr : w.grownBy (w1.setCell ⟨g, 2 + k, none⟩ (.bool false)) (some g) := grown_trans (grown_of_below hb _) (grown_setCell w1 ⟨g, 2 + k, none⟩ _)
        obtain ⟨W2, hW2⟩ : ∃ W2, w1.setCell ⟨g, 2 + k, none⟩ (.bool false) = W2 := ⟨_, rfl⟩
        rw [hW2] at h2 c0 c3 hgr
        subst hso
        generalize hz : f.stakes.getD k 0 = z at *
        have HZ := hide hz
        clear hP h hb hz
        generalize f.laid.getD k false = zz at *
        simp only at c0
        go_wp2_with fail
        go_ret2
        exact ⟨by rw [HZ.out]; rfl, h2, hgr⟩
      · rw [t3] at hfull
        clear t3
        simp only [if_true]
        go_enter Try.func19, Try.ntmps19
        go_wp2_with fail
        refine hth.mono ?_
        rintro e w1 ⟨rfl, rfl⟩
        go_wp2_with fail
        refine hfull.mono ?_
        rintro e w1 ⟨rfl, hb⟩
        clear c2 hth hfull
        go_wp2_with fail
        go_ret2
        exact ⟨rfl, hP.below hb, grown_of_below hb _⟩
  · have ht : thereF f.stakes.length seat = false := by simpa using ht
    rw [ht] at hth
    have hl : backF f seat = (f, 0, 28) := by unfold backF; rw [if_pos ht]
    rw [hl]
    clear hl ht
    go_enter Try.func19, Try.ntmps19
    go_wp2_with fail
    refine hth.mono ?_
    rintro e w1 ⟨rfl, rfl⟩
    go_wp2_with fail
    go_ret2
    exact ⟨rfl, hP, grown_of_below (Below.refl _ _) _⟩

theorem back_any {w : World} {base g : Nat} {f : FundX} {seat now : Int} (h : FundP w base g f) (hk : f.Ok) :
    Calls Try.prog 19 #[.pointer (some ⟨g, 0, none⟩), .int .i64 seat, .int .i64 now] w fun e w' => e = .returned (.tuple #[.int .i64 (backF f seat).2.1, .int .i64 (backF f seat).2.2]) ∧ FundP w' base g (backF f seat).1 ∧ w.grownBy w' (some g) := by
  obtain ⟨so, sc, h⟩ := h
  exact (back_anyQ h hk).mono fun e w' ⟨h1, h2, h3⟩ => ⟨h1, ⟨so, sc, h2⟩, h3⟩

/-- A slice that a walk has laid out. -/
theorem rd_made (w : World) (l : List Int) (fr : Nat × Nat) : RdS intE (w.alloc (.cells (l.map (Value.int .i64)).toArray 3 fr)) (some ⟨w.heap.size, 0, none⟩) l.length l.length l := by
  refine ⟨Rd.mk_some fun i u hu => ?_, rfl, Nat.le_refl _, fun e => by cases e⟩
  have e : ∀ l : List Int, l.flatMap intE.enc = l.map (Value.int .i64) := fun l => by
    induction l with
    | nil => rfl
    | cons x l ih => rw [List.flatMap_cons, ih]; rfl
  rw [e] at hu
  unfold World.cell?
  rw [heap_alloc_new]
  simpa using hu

set_option maxRecDepth 100000 in
set_option maxHeartbeats 4000000 in
theorem told_any (w : World) : Calls Try.prog 12 #[] w fun e w' => e = .returned (.bool true) ∧ Below w.heap.size w w' := by
  go_enter Try.func12, Try.ntmps12
  go_wp2_with fail
  refine (fundnew_ok (due := 10) (rd_made w [5, 3] (0, 0)) (by simp) (by decide)).mono ?_
  rintro e w1 ⟨g, rfl, h, hk, hb1⟩
  have hb := below_trans (below_alloc w _) hb1
  have hle : w.heap.size ≤ g := Nat.le_trans (by simp) h.le
  go_wp2_with fail
  refine (lay_any (seat := 0) (amount := 5) (now := 9) h hk).mono ?_
  rintro e w2 ⟨rfl, h, hg⟩
  have hk := hk.lay 0 5 9
  have hb := hb.grown hg hb.size (fun k hk => by cases hk; exact hle)
  rw [show layF ⟨[5, 3], 10, List.replicate ([5, 3] : List Int).length false⟩ 0 5 9 = (⟨[5, 3], 10, [true, false]⟩, 0) from rfl] at h hk ⊢
  go_wp2_with fail
  refine (back_any (seat := 0) (now := 9) h hk).mono ?_
  rintro e w3 ⟨rfl, h, hg⟩
  have hk := hk.back 0
  have hb := hb.grown hg hb.size (fun k hk => by cases hk; exact hle)
  rw [show backF ⟨[5, 3], 10, [true, false]⟩ 0 = (⟨[5, 3], 10, [false, false]⟩, 5, 0) from rfl] at h hk ⊢
  go_wp2_with fail
  refine (lay_any (seat := 0) (amount := 5) (now := 10) h hk).mono ?_
  rintro e w4 ⟨rfl, h, hg⟩
  have hk := hk.lay 0 5 10
  have hb := hb.grown hg hb.size (fun k hk => by cases hk; exact hle)
  rw [show layF ⟨[5, 3], 10, [false, false]⟩ 0 5 10 = (⟨[5, 3], 10, [true, false]⟩, 0) from rfl] at h hk ⊢
  go_wp2_with fail
  refine (lay_any (seat := 1) (amount := 3) (now := 10) h hk).mono ?_
  rintro e w5 ⟨rfl, h, hg⟩
  have hk := hk.lay 1 3 10
  have hb := hb.grown hg hb.size (fun k hk => by cases hk; exact hle)
  rw [show layF ⟨[5, 3], 10, [true, false]⟩ 1 3 10 = (⟨[5, 3], 10, [true, true]⟩, 0) from rfl] at h hk ⊢
  go_wp2_with fail
  refine (back_any (seat := 0) (now := 11) h hk).mono ?_
  rintro e w6 ⟨rfl, h, hg⟩
  have hk := hk.back 0
  have hb := hb.grown hg hb.size (fun k hk => by cases hk; exact hle)
  rw [show backF ⟨[5, 3], 10, [true, true]⟩ 0 = (⟨[5, 3], 10, [true, true]⟩, 0, 10) from rfl] at h hk ⊢
  go_wp2_with fail
  refine (phase_any (now := 99) h hk).mono ?_
  rintro e w7 ⟨rfl, hb7⟩
  rw [show phaseF ⟨[5, 3], 10, [true, true]⟩ 99 = 1 from rfl]
  go_wp2_with fail
  go_ret
  exact ⟨rfl, below_trans hb hb7⟩
end Go.Proofs.Ytoeoneiopcagfaa
