/- The reader of the layer octet: Num. -/
import Derived.Test.YtpnliafjiookpaaRdC
namespace Go.Proofs.Ytpnliafjiookpaa
open Go.RowKit

set_option maxRecDepth 100000 in
set_option maxHeartbeats 1000000 in
theorem num_any {w : World} {base g : Nat} {s : List UInt8 × Nat} {most : Nat} (h : Rdr w base g s) (hm : U64 most) :
    Calls Try.prog 23 #[.pointer (some ⟨g, 0, none⟩), .int .u64 most] w fun e w' => e = .returned (.int .u64 ((numR most s).2 : Nat)) ∧ Rdr w' base g (numR most s).1 ∧ w.grownBy w' (some g) := by
  have hm1 : (most : Int) ≤ 18446744073709551615 := by unfold U64 at hm; omega
  obtain ⟨ao, n, c, hh, hR, hn, hb⟩ := h.ex
  have c0 : w.cell? ⟨g, 0, none⟩ = some (.slice ao n c) := by unfold World.cell?; rw [hh]; rfl
  have c1 : w.cell? ⟨g, 1, none⟩ = some (.int .i64 (s.2 : Nat)) := by unfold World.cell?; rw [hh]; rfl
  have f0 : w.frozen? ⟨g, 0, none⟩ = false := by unfold World.frozen?; rw [hh]; rfl
  have f1 : w.frozen? ⟨g, 1, none⟩ = false := by unfold World.frozen?; rw [hh]; rfl
  have glt := h.lt
  have d0 := cell_past2 c0
  have d1 := cell_past2 c1
  have e0 := free_past2 (a := ⟨g, 0, none⟩) glt f0
  have e1 := free_past2 (a := ⟨g, 1, none⟩) glt f1
  clear c0 c1 f0 f1
  by_cases h0 : s.2 = 0
  · have h1 : ((s.2 : Int) != 0) = false := by simp [h0]
    have H0 := hide h0
    clear h0
    have hp := parse_ok s.1
    have hl := hR.len
    go_enter Try.func23, Try.ntmps23
    go_wp2_with fail
    go_in
    go_wp2_with fail
    go_in
    go_wp2_with fail
    refine (number_any (hR.below (below_trans (below_alloc w _) (below_alloc _ _))) hn).mono ?_
    rintro e w1 ⟨rfl, rfl⟩
    rcases hp with ⟨p1, p2, p3, p4⟩ | ⟨p1, p2, p3, p4, p5⟩
    · have q1 : (((parse s.1).2.2 : Int) == 0) = false := by simpa using p1
      have q2 : (((parse s.1).2.2 : Int) != 0) = true := by simpa using p1
      have HP := hide p1
      clear p1 p2 p3
      go_wp2_with fail
      go_ret
      have e1 : numR most s = ((s.1, (parse s.1).2.2), 0) := by unfold numR; rw [if_neg (by simp [H0.out]), if_pos HP.out]
      rw [e1]
      exact ⟨rfl, (h.fail _).below (below_trans (below_alloc _ _) (below_alloc _ _)), grown_trans (grown_setCell _ _ _) (grown_of_below (below_trans (below_alloc _ _) (below_alloc _ _)) _)⟩
    · have hm2 : ((parse s.1).1 : Int) ≤ 18446744073709551615 := by omega
      have q1 : (((parse s.1).2.2 : Int) == 0) = true := by simpa using p1
      have q2 : (((parse s.1).2.2 : Int) != 0) = false := by simpa using p1
      have p4' : (parse s.1).2.1 ≤ n := by omega
      have HP := hide (And.intro p1 (And.intro p4' hl))
      clear p1 p2 p4 hl
      by_cases hq : most < (parse s.1).1
      · go_wp2_with fail
        go_ret
        have e1 : numR most s = ((s.1, 2), 0) := by unfold numR; rw [if_neg (by simp [H0.out]), if_neg (by simp [HP.out.1]), if_pos hq]
        rw [e1]
        exact ⟨rfl, (h.fail _).below (below_trans (below_alloc _ _) (below_alloc _ _)), grown_trans (grown_setCell _ _ _) (grown_of_below (below_trans (below_alloc _ _) (below_alloc _ _)) _)⟩
      · have hnc := hR.cap
        have HE : Hidden (numR most s = ((s.1.drop (parse s.1).2.1, 0), (parse s.1).1)) := hide (by unfold numR; rw [if_neg (by simp [H0.out]), if_neg (by simp [HP.out.1]), if_neg hq])
        have ht := h.took hh HP.out.2.1
        rw [H0.out] at ht
        have HT := hide ht
        clear ht
        by_cases hck : c = (parse s.1).2.1
        · rw [if_pos hck] at HT
          have hnK : n = c := by have := HP.out.2.1; omega
          subst hnK
          rw [← hck] at HT
          simp only [Nat.sub_self] at HT
          have hck' : (parse s.1).2.1 = n := hck.symm
          clear hck
          go_wp2_with fail
          go_ret
          rw [HE.out]
          exact ⟨rfl, by rw [hck'] ; exact HT.out.below (below_trans (below_alloc _ _) (below_alloc _ _)), grown_trans (grown_setCell _ _ _) (grown_of_below (below_trans (below_alloc _ _) (below_alloc _ _)) _)⟩
        · rw [if_neg hck] at HT
          go_wp2_with fail
          go_ret
          rw [HE.out]
          exact ⟨rfl, HT.out.below (below_trans (below_alloc _ _) (below_alloc _ _)), grown_trans (grown_setCell _ _ _) (grown_of_below (below_trans (below_alloc _ _) (below_alloc _ _)) _)⟩
  · have h1 : ((s.2 : Int) != 0) = true := by simp [h0]
    have H0 := hide h0
    clear h0
    go_enter Try.func23, Try.ntmps23
    go_wp2_with fail
    go_in
    go_wp2_with fail
    go_ret
    have e1 : numR most s = (s, 0) := by unfold numR; rw [if_pos H0.out]
    rw [e1]
    exact ⟨rfl, h.below (below_trans (below_alloc w _) (below_alloc _ _)), grown_of_below (below_trans (below_alloc w _) (below_alloc _ _)) _⟩
end Go.Proofs.Ytpnliafjiookpaa
