/- The document's reader: Read, by its walk. -/
import Derived.Test.YtpnliafjiookpaaRdH
namespace Go.Proofs.Ytpnliafjiookpaa
open Go.RowKit

/-- What Read and Some leave of the reader. -/
def RPost (xs : List UInt8) (bo : Option Addr) (n c : Nat) (s : List UInt8 × Nat) (at1 : Nat) (v : Value) : Prop :=
  v = .agg #[.slice bo n c, .int .i64 (at1 : Nat), .int .i64 (s.2 : Nat)] ∧ at1 ≤ n ∧ xs.drop at1 = s.1

set_option maxRecDepth 100000 in
set_option maxHeartbeats 4000000 in
theorem readR_any {w : World} {bo : Option Addr} {n c at0 er most : Nat} {xs : List UInt8} (hR : RdB w bo n c xs) (hat : at0 ≤ n) (hl : n ≤ 140737488355328) (hm : U64 most) :
    Calls Try.prog 29 #[.agg #[.slice bo n c, .int .i64 at0, .int .i64 er], .int .u64 most] w fun e w' => ∃ at1 : Nat,
      e = .returned (.tuple #[.agg #[.slice bo n c, .int .i64 (at1 : Nat), .int .i64 ((numR most (xs.drop at0, er)).1.2 : Nat)], .int .u64 ((numR most (xs.drop at0, er)).2 : Nat)]) ∧ at1 ≤ n ∧ xs.drop at1 = (numR most (xs.drop at0, er)).1.1 ∧ Below w.heap.size w w' := by
  unfold U64 at hm
  have hm1 : (most : Int) ≤ 18446744073709551615 := by omega
  have hnc := hR.cap
  have hb0 : Below w.heap.size w ((w.alloc (.cells #[.slice bo n c, .int .i64 at0, .int .i64 er] 51 (0, 0))).alloc (.cells #[.slice none 0 0, .int .i64 0, .int .i64 0] 51 (0, 0))) := below_trans (below_alloc w _) (below_alloc _ _)
  have zA := heap_two_old w (.cells #[.slice bo n c, .int .i64 at0, .int .i64 er] 51 (0, 0)) (.cells #[.slice none 0 0, .int .i64 0, .int .i64 0] 51 (0, 0))
  have zB := heap_two_new w (.cells #[.slice bo n c, .int .i64 at0, .int .i64 er] 51 (0, 0)) (.cells #[.slice none 0 0, .int .i64 0, .int .i64 0] 51 (0, 0))
  have hRw := hR.below hb0
  by_cases h0 : er = 0
  · subst h0
    obtain ⟨p, hp⟩ : ∃ p, (if c = at0 then bo else bo.map fun x => x.add at0) = p := ⟨_, rfl⟩
    have hRp := hRw.dropO byteE_ok hat
    rw [show at0 * byteE.size = at0 from Nat.mul_one _, hp] at hRp
    have hpo := parse_ok (xs.drop at0)
    have hld : (xs.drop at0).length = n - at0 := by rw [List.length_drop, hR.len]
    have i0 : (at0 : Int) ≤ n := by omega
    have i1 : (n : Int) ≤ c := by omega
    have i2 : (n : Int) ≤ 140737488355328 := by omega
    rcases hpo with ⟨p1, p2, p3, p4⟩ | ⟨p1, p2, p3, p4, p5⟩
    · have q1 : (((parse (xs.drop at0)).2.2 : Int) == 0) = false := by simpa using p1
      have q2 : (((parse (xs.drop at0)).2.2 : Int) != 0) = true := by simpa using p1
      have HE : Hidden (numR most (xs.drop at0, 0) = ((xs.drop at0, (parse (xs.drop at0)).2.2), 0)) := hide (by unfold numR; rw [if_neg (by simp), if_pos p1])
      have hnum := rnumber_any hRp (by omega)
      rw [HE.out]
      have HN := hide hnum
      clear p1 p2 p3 p4 hld hnum HE hRp
      generalize (parse (xs.drop at0)).1 = N at *
      generalize (parse (xs.drop at0)).2.1 = K at *
      generalize (parse (xs.drop at0)).2.2 = E at *
      go_enter Try.func29, Try.ntmps29
      go_upto_region 1 with fail
      generalize (w.alloc (.cells #[.slice bo n c, .int .i64 at0, .int .i64 ((0 : Nat) : Int)] 51 (0, 0))).alloc (.cells #[.slice none 0 0, .int .i64 0, .int .i64 0] 51 (0, 0)) = W0 at *
      obtain ⟨c0, c1, c2, _⟩ := box_cells zA
      go_wp2_with fail
      refine HN.out.mono ?_
      rintro e w1 ⟨rfl, rfl⟩
      go_wp2_with fail
      refine rfail_any.mono ?_
      rintro e w1 ⟨rfl, hb1⟩
      have zB1 := z_keep (grown_of_below hb1 none) zB (fun e => by cases e)
      have hb2 := below_trans hb0 hb1
      obtain ⟨d0, d1, d2, d3⟩ := box_cells zB1
      have g0 := d3 0
      have g1 := d3 1
      have g2 := d3 2
      obtain ⟨v0, v1, v2, _⟩ := box_cells (box_put zB1 (.slice bo n c) (.int .i64 at0) (.int .i64 E))
      have hgr := box_grown w1 (w.heap.size + 1) (.slice bo n c) (.int .i64 at0) (.int .i64 E)
      clear d3 zB1
      go_wp2_with fail
      exact bodyPost_ret (v := .tuple #[.agg #[.slice bo n c, .int .i64 at0, .int .i64 E], .int .u64 0]) (by simp [results, Try.results29, asAddr, go_sem, v0, v1, v2]) rfl ⟨at0, rfl, hat, rfl, hb2.grown hgr hb2.size (fun k hk => by cases hk; exact Nat.le_succ _)⟩
    · have q1 : (((parse (xs.drop at0)).2.2 : Int) == 0) = true := by simpa using p1
      have q2 : (((parse (xs.drop at0)).2.2 : Int) != 0) = false := by simpa using p1
      have j1 : ((parse (xs.drop at0)).1 : Int) ≤ 18446744073709551615 := by omega
      have hnum := rnumber_any hRp (by omega)
      by_cases hq : most < (parse (xs.drop at0)).1
      · have HE : Hidden (numR most (xs.drop at0, 0) = ((xs.drop at0, 2), 0)) := hide (by unfold numR; rw [if_neg (by simp), if_neg (by simp [p1]), if_pos hq])
        have j2 : (most : Int) < ((parse (xs.drop at0)).1 : Int) := by omega
        rw [HE.out]
        have HN := hide hnum
        clear p1 p2 p3 p4 hld hnum HE hRp hq
        generalize (parse (xs.drop at0)).1 = N at *
        generalize (parse (xs.drop at0)).2.1 = K at *
        generalize (parse (xs.drop at0)).2.2 = E at *
        go_enter Try.func29, Try.ntmps29
        go_upto_region 1 with fail
        generalize (w.alloc (.cells #[.slice bo n c, .int .i64 at0, .int .i64 ((0 : Nat) : Int)] 51 (0, 0))).alloc (.cells #[.slice none 0 0, .int .i64 0, .int .i64 0] 51 (0, 0)) = W0 at *
        obtain ⟨c0, c1, c2, _⟩ := box_cells zA
        go_wp2_with fail
        refine HN.out.mono ?_
        rintro e w1 ⟨rfl, rfl⟩
        go_wp2_with fail
        refine rfail_any.mono ?_
        rintro e w1 ⟨rfl, hb1⟩
        have zB1 := z_keep (grown_of_below hb1 none) zB (fun e => by cases e)
        have hb2 := below_trans hb0 hb1
        obtain ⟨d0, d1, d2, d3⟩ := box_cells zB1
        have g0 := d3 0
        have g1 := d3 1
        have g2 := d3 2
        obtain ⟨v0, v1, v2, _⟩ := box_cells (box_put zB1 (.slice bo n c) (.int .i64 at0) (.int .i64 2))
        have hgr := box_grown w1 (w.heap.size + 1) (.slice bo n c) (.int .i64 at0) (.int .i64 2)
        clear d3 zB1
        go_wp2_with fail
        exact bodyPost_ret (v := .tuple #[.agg #[.slice bo n c, .int .i64 at0, .int .i64 2], .int .u64 0]) (by simp [results, Try.results29, asAddr, go_sem, v0, v1, v2]) rfl ⟨at0, rfl, hat, rfl, hb2.grown hgr hb2.size (fun k hk => by cases hk; exact Nat.le_succ _)⟩
      · have HE : Hidden (numR most (xs.drop at0, 0) = (((xs.drop at0).drop (parse (xs.drop at0)).2.1, 0), (parse (xs.drop at0)).1)) := hide (by unfold numR; rw [if_neg (by simp), if_neg (by simp [p1]), if_neg hq])
        have j2 : ((parse (xs.drop at0)).1 : Int) ≤ (most : Int) := by omega
        have j3 : at0 + (parse (xs.drop at0)).2.1 ≤ n := by omega
        have j4 : ((parse (xs.drop at0)).2.1 : Int) ≤ n := by omega
        rw [HE.out, List.drop_drop]
        have HN := hide hnum
        clear p1 p2 p3 p4 hld hnum HE hRp hq
        generalize (parse (xs.drop at0)).1 = N at *
        generalize (parse (xs.drop at0)).2.1 = K at *
        generalize (parse (xs.drop at0)).2.2 = E at *
        go_enter Try.func29, Try.ntmps29
        go_upto_region 1 with fail
        generalize (w.alloc (.cells #[.slice bo n c, .int .i64 at0, .int .i64 ((0 : Nat) : Int)] 51 (0, 0))).alloc (.cells #[.slice none 0 0, .int .i64 0, .int .i64 0] 51 (0, 0)) = W0 at *
        obtain ⟨c0, c1, c2, c3⟩ := box_cells zA
        have f1 := c3 1
        clear c3
        have hg1 := grown_setCell W0 ⟨w.heap.size, 1, none⟩ (.int .i64 ((at0 : Int) + (K : Int)))
        have zA1 : (W0.setCell ⟨w.heap.size, 1, none⟩ (.int .i64 ((at0 : Int) + (K : Int)))).heap[w.heap.size]? = some (.cells #[.slice bo n c, .int .i64 ((at0 : Int) + (K : Int)), .int .i64 ((0 : Nat) : Int)] 51 (0, 0)) := by rw [heap_set zA]; rfl
        have zB1 := z_keep hg1 zB (fun e => by have := Option.some.inj e; simp at this)
        have hb1 := hb0.grown hg1 hb0.size (fun k hk => by cases hk; exact Nat.le_refl _)
        go_wp2_with fail
        refine HN.out.mono ?_
        rintro e w1 ⟨rfl, rfl⟩
        go_upto_region 9 with fail
        generalize W0.setCell ⟨w.heap.size, 1, none⟩ (.int .i64 ((at0 : Int) + (K : Int))) = W1 at *
        clear c0 c1 c2 f1
        obtain ⟨c0, c1, c2, _⟩ := box_cells zA1
        obtain ⟨d0, d1, d2, d3⟩ := box_cells zB1
        have g0 := d3 0
        have g1 := d3 1
        have g2 := d3 2
        obtain ⟨v0, v1, v2, _⟩ := box_cells (box_put zB1 (.slice bo n c) (.int .i64 ((at0 : Int) + (K : Int))) (.int .i64 0))
        have hgr := box_grown W1 (w.heap.size + 1) (.slice bo n c) (.int .i64 ((at0 : Int) + (K : Int))) (.int .i64 0)
        clear d3
        go_wp2_with fail
        exact bodyPost_ret (v := .tuple #[.agg #[.slice bo n c, .int .i64 ((at0 : Int) + (K : Int)), .int .i64 0], .int .u64 N]) (by simp [results, Try.results29, asAddr, go_sem, v0, v1, v2]) rfl ⟨at0 + K, by simp, by omega, rfl, hb1.grown hgr hb1.size (fun k hk => by cases hk; exact Nat.le_succ _)⟩
  · have q1 : ((er : Int) != 0) = true := by simpa using h0
    have HE : Hidden (numR most (xs.drop at0, er) = ((xs.drop at0, er), 0)) := hide (by unfold numR; rw [if_pos h0])
    rw [HE.out]
    clear HE h0
    go_enter Try.func29, Try.ntmps29
    go_upto_region 1 with fail
    generalize (w.alloc (.cells #[.slice bo n c, .int .i64 at0, .int .i64 er] 51 (0, 0))).alloc (.cells #[.slice none 0 0, .int .i64 0, .int .i64 0] 51 (0, 0)) = W0 at *
    obtain ⟨c0, c1, c2, _⟩ := box_cells zA
    obtain ⟨d0, d1, d2, d3⟩ := box_cells zB
    have g0 := d3 0
    have g1 := d3 1
    have g2 := d3 2
    obtain ⟨v0, v1, v2, _⟩ := box_cells (box_put zB (.slice bo n c) (.int .i64 at0) (.int .i64 er))
    have hgr := box_grown W0 (w.heap.size + 1) (.slice bo n c) (.int .i64 at0) (.int .i64 er)
    clear d3
    go_wp2_with fail
    exact bodyPost_ret (v := .tuple #[.agg #[.slice bo n c, .int .i64 at0, .int .i64 er], .int .u64 0]) (by simp [results, Try.results29, asAddr, go_sem, v0, v1, v2]) rfl ⟨at0, rfl, hat, rfl, hb0.grown hgr hb0.size (fun k hk => by cases hk; exact Nat.le_succ _)⟩
end Go.Proofs.Ytpnliafjiookpaa
