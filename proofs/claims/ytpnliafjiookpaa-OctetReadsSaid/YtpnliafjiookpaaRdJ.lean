/- The document's reader: Some, by its walk. -/
import Derived.Test.YtpnliafjiookpaaRdI
namespace Go.Proofs.Ytpnliafjiookpaa
open Go.RowKit

theorem OwnS.notAt {α : Type} {E : El α} {w : World} {base g n c : Nat} {ao : Option Addr} {l : List α} (h : OwnS E w base ao n c l) (hg : g < base) : (Value.slice ao n c).ownBlock ≠ some g := by
  cases ao with
  | none => simp [Value.ownBlock]
  | some ad =>
    obtain ⟨g2, rfl, h1, _⟩ := h.addr ad rfl
    simp [Value.ownBlock]
    omega

set_option maxRecDepth 100000 in
set_option maxHeartbeats 8000000 in
theorem someR_any {w : World} {bo : Option Addr} {n c at0 er : Nat} {most : Int} {xs : List UInt8} (hR : RdB w bo n c xs) (hat : at0 ≤ n) (hl : n ≤ 140737488351232) (hm : I64 most) :
    Calls Try.prog 31 #[.agg #[.slice bo n c, .int .i64 at0, .int .i64 er], .int .i64 most] w fun e w' => ∃ (at1 : Nat) (ao : Option Addr) (k k2 : Nat),
      e = .returned (.tuple #[.agg #[.slice bo n c, .int .i64 (at1 : Nat), .int .i64 ((bytesR most (xs.drop at0, er)).1.2 : Nat)], .slice ao k k2]) ∧ at1 ≤ n ∧ xs.drop at1 = (bytesR most (xs.drop at0, er)).1.1 ∧ OwnB w' w.heap.size ao k k2 (bytesR most (xs.drop at0, er)).2 ∧ Below w.heap.size w w' := by
  have hm1 : -9223372036854775808 ≤ most := hm.1
  have hm2 : most ≤ 9223372036854775807 := by have := hm.2; omega
  have hnc := hR.cap
  have hb0 : Below w.heap.size w ((w.alloc (.cells #[.slice bo n c, .int .i64 at0, .int .i64 er] 51 (0, 0))).alloc (.cells #[.slice none 0 0, .int .i64 0, .int .i64 0] 51 (0, 0))) := below_trans (below_alloc w _) (below_alloc _ _)
  have zA := heap_two_old w (.cells #[.slice bo n c, .int .i64 at0, .int .i64 er] 51 (0, 0)) (.cells #[.slice none 0 0, .int .i64 0, .int .i64 0] 51 (0, 0))
  have zB := heap_two_new w (.cells #[.slice bo n c, .int .i64 at0, .int .i64 er] 51 (0, 0)) (.cells #[.slice none 0 0, .int .i64 0, .int .i64 0] 51 (0, 0))
  have hs2 : ((w.alloc (.cells #[.slice bo n c, .int .i64 at0, .int .i64 er] 51 (0, 0))).alloc (.cells #[.slice none 0 0, .int .i64 0, .int .i64 0] 51 (0, 0))).heap.size = w.heap.size + 2 := by simp
  have HS2 := hide hs2
  have hRw := hR.below hb0
  clear hs2 hm
  by_cases h0 : er = 0
  · subst h0
    have hpo := parse_ok (xs.drop at0)
    have hld : (xs.drop at0).length = n - at0 := by rw [List.length_drop, hR.len]
    have hrd := readR_any (er := 0) (most := 18446744073709551615) hRw hat (by omega) (by unfold U64; omega)
    rcases hpo with ⟨p1, p2, p3, p4⟩ | ⟨p1, p2, p3, p4, p5⟩
    · have q2 : (((parse (xs.drop at0)).2.2 : Int) != 0) = true := by simpa using p1
      have HE : Hidden (numR 18446744073709551615 (xs.drop at0, 0) = ((xs.drop at0, (parse (xs.drop at0)).2.2), 0)) := hide (by unfold numR; rw [if_neg (by simp), if_pos p1])
      have HB : Hidden (bytesR most (xs.drop at0, 0) = ((xs.drop at0, (parse (xs.drop at0)).2.2), [])) := hide (by unfold bytesR; rw [if_neg (by simp), if_pos p1])
      rw [HE.out] at hrd
      rw [HB.out]
      have HRD := hide hrd
      clear p1 p2 p3 p4 hld hrd HE HB
      generalize (parse (xs.drop at0)).2.2 = E at *
      go_enter Try.func31, Try.ntmps31
      go_upto_region 1 with fail
      generalize (w.alloc (.cells #[.slice bo n c, .int .i64 at0, .int .i64 ((0 : Nat) : Int)] 51 (0, 0))).alloc (.cells #[.slice none 0 0, .int .i64 0, .int .i64 0] 51 (0, 0)) = W0 at *
      obtain ⟨c0, c1, c2, _⟩ := box_cells zA
      go_wp2_with fail
      refine HRD.out.mono ?_
      rintro e w1 ⟨at1, rfl, hat1, hdr, hb1⟩
      have hbx := below_trans hb1 (below_alloc w1 (.cells #[.slice bo n c, .int .i64 (at1 : Nat), .int .i64 (E : Nat)] 51 (0, 0)))
      have zX := heap_alloc_new w1 (.cells #[.slice bo n c, .int .i64 (at1 : Nat), .int .i64 (E : Nat)] 51 (0, 0))
      have zA := z_keep (grown_of_below hbx none) zA (fun e => by cases e)
      have zB := z_keep (grown_of_below hbx none) zB (fun e => by cases e)
      have hbw := below_trans hb0 hbx
      have hs1 : w.heap.size + 2 ≤ w1.heap.size := by have := HS2.out; have := hb1.size; omega
      clear c0 c1 c2
      go_upto_region 4 with fail
      generalize w1.alloc (.cells #[.slice bo n c, .int .i64 (at1 : Nat), .int .i64 (E : Nat)] 51 (0, 0)) = W2 at *
      obtain ⟨c0, c1, c2, _⟩ := box_cells zA
      obtain ⟨x0, x1, x2, x3⟩ := box_cells zX
      go_wp2_with fail
      refine rfail_any.mono ?_
      rintro e w3 ⟨rfl, hb3⟩
      have zB3 := z_keep (grown_of_below hb3 none) zB (fun e => by cases e)
      have hb4 := below_trans hbw hb3
      obtain ⟨d0, d1, d2, d3⟩ := box_cells zB3
      have g0 := d3 0
      have g1 := d3 1
      have g2 := d3 2
      obtain ⟨v0, v1, v2, _⟩ := box_cells (box_put zB3 (.slice bo n c) (.int .i64 at0) (.int .i64 E))
      have hgr := box_grown w3 (w.heap.size + 1) (.slice bo n c) (.int .i64 at0) (.int .i64 E)
      clear d3 zB3
      go_wp2_with fail
      exact bodyPost_ret (v := .tuple #[.agg #[.slice bo n c, .int .i64 at0, .int .i64 E], .slice none 0 0]) (by simp [results, Try.results31, asAddr, go_sem, v0, v1, v2]) rfl ⟨at0, none, 0, 0, rfl, hat, rfl, OwnS.nilRow _ _, hb4.grown hgr hb4.size (fun k hk => by cases hk; exact Nat.le_succ _)⟩
    · have hN : (parse (xs.drop at0)).1 ≤ 18446744073709551615 := by omega
      have j1 : ((parse (xs.drop at0)).1 : Int) ≤ 18446744073709551615 := by omega
      have HE : Hidden (numR 18446744073709551615 (xs.drop at0, 0) = (((xs.drop at0).drop (parse (xs.drop at0)).2.1, 0), (parse (xs.drop at0)).1)) := hide (by unfold numR; rw [if_neg (by simp), if_neg (by simp [p1]), if_neg (by show ¬ (18446744073709551615 < (parse (xs.drop at0)).1); omega)])
      obtain ⟨k1, k2, k3⟩ := bytesR_cases (most := most) (s := (xs.drop at0, 0)) rfl p1
      rw [HE.out] at hrd
      have HRD := hide hrd
      have HK := hide (And.intro k1 (And.intro k2 k3))
      have hKl := p4
      rw [hld] at hKl
      have HLD := hide hld
      have hmc : (most < 0 ∧ most.toNat = 0) ∨ (0 ≤ most ∧ (most.toNat : Int) = most) := by omega
      have hM1 : (most.toNat : Int) ≤ 9223372036854775807 := by omega
      have HMC := hide hmc
      clear p1 p2 p3 p4 hld hrd HE k1 k2 k3 hN hmc
      simp only at HK
      generalize (parse (xs.drop at0)).1 = N at *
      generalize (parse (xs.drop at0)).2.1 = K at *
      generalize most.toNat = M at *
      by_cases hq : M < N
      · have j2 : (M : Int) < N := by omega
        have HB := hide (HK.out.1 hq)
        rw [HB.out]
        clear hq
        go_enter Try.func31, Try.ntmps31
        go_upto_region 1 with fail
        generalize (w.alloc (.cells #[.slice bo n c, .int .i64 at0, .int .i64 ((0 : Nat) : Int)] 51 (0, 0))).alloc (.cells #[.slice none 0 0, .int .i64 0, .int .i64 0] 51 (0, 0)) = W0 at *
        obtain ⟨c0, c1, c2, _⟩ := box_cells zA
        go_wp2_with fail
        refine HRD.out.mono ?_
        rintro e w1 ⟨at1, rfl, hat1, hdr, hb1⟩
        have hbx := below_trans hb1 (below_alloc w1 (.cells #[.slice bo n c, .int .i64 (at1 : Nat), .int .i64 (0 : Nat)] 51 (0, 0)))
        have zX := heap_alloc_new w1 (.cells #[.slice bo n c, .int .i64 (at1 : Nat), .int .i64 (0 : Nat)] 51 (0, 0))
        have zA := z_keep (grown_of_below hbx none) zA (fun e => by cases e)
        have zB := z_keep (grown_of_below hbx none) zB (fun e => by cases e)
        have hbw := below_trans hb0 hbx
        have hs1 : w.heap.size + 2 ≤ w1.heap.size := by have := HS2.out; have := hb1.size; omega
        clear c0 c1 c2
        go_upto_region 4 with fail
        generalize w1.alloc (.cells #[.slice bo n c, .int .i64 (at1 : Nat), .int .i64 (0 : Nat)] 51 (0, 0)) = W2 at *
        obtain ⟨c0, c1, c2, _⟩ := box_cells zA
        obtain ⟨x0, x1, x2, x3⟩ := box_cells zX
        have hxl : n - at1 = n - at0 - K := by
          have h1 := congrArg List.length hdr
          rw [List.length_drop, List.length_drop, HLD.out, hR.len] at h1
          exact h1
        have HDR := hide hdr
        have u1 : IntKind.u64.wrap (M : Int) = M := by go_arith
        clear hdr
        go_upto_if 26 with fail
        go_cut [1] from 25 to 26 (fun v1 wr => v1 = .int .i64 M ∧ wr = W2)
        case first =>
          rcases HMC.out with ⟨t1, e⟩ | ⟨t1, e⟩
          all_goals
            have HX := hide e
            clear e
            go_wp2_with fail
            go_meet
            case rel => exact ⟨by rw [HX.out] <;> rfl, rfl⟩
        case rest =>
          obtain ⟨rfl, rfl⟩ := hcut
          go_wp2_with fail
          refine rfail_any.mono ?_
          rintro e w3 ⟨rfl, hb3⟩
          have zB3 := z_keep (grown_of_below hb3 none) zB (fun e => by cases e)
          have hb4 := below_trans hbw hb3
          obtain ⟨d0, d1, d2, d3⟩ := box_cells zB3
          have g0 := d3 0
          have g1 := d3 1
          have g2 := d3 2
          obtain ⟨v0, v1, v2, _⟩ := box_cells (box_put zB3 (.slice bo n c) (.int .i64 at0) (.int .i64 2))
          have hgr := box_grown w3 (w.heap.size + 1) (.slice bo n c) (.int .i64 at0) (.int .i64 2)
          clear d3 zB3
          go_wp2_with fail
          exact bodyPost_ret (v := .tuple #[.agg #[.slice bo n c, .int .i64 at0, .int .i64 2], .slice none 0 0]) (by simp [results, Try.results31, asAddr, go_sem, v0, v1, v2]) rfl ⟨at0, none, 0, 0, rfl, hat, rfl, OwnS.nilRow _ _, hb4.grown hgr hb4.size (fun k hk => by cases hk; exact Nat.le_succ _)⟩
      · have j2 : (N : Int) ≤ M := by omega
        by_cases hq2 : n - at0 - K < N
        · have HB := hide (HK.out.2.1 hq (by simpa [HLD.out] using hq2))
          rw [HB.out]
          clear hq
          go_enter Try.func31, Try.ntmps31
          go_upto_region 1 with fail
          generalize (w.alloc (.cells #[.slice bo n c, .int .i64 at0, .int .i64 ((0 : Nat) : Int)] 51 (0, 0))).alloc (.cells #[.slice none 0 0, .int .i64 0, .int .i64 0] 51 (0, 0)) = W0 at *
          obtain ⟨c0, c1, c2, _⟩ := box_cells zA
          go_wp2_with fail
          refine HRD.out.mono ?_
          rintro e w1 ⟨at1, rfl, hat1, hdr, hb1⟩
          have hbx := below_trans hb1 (below_alloc w1 (.cells #[.slice bo n c, .int .i64 (at1 : Nat), .int .i64 (0 : Nat)] 51 (0, 0)))
          have zX := heap_alloc_new w1 (.cells #[.slice bo n c, .int .i64 (at1 : Nat), .int .i64 (0 : Nat)] 51 (0, 0))
          have zA := z_keep (grown_of_below hbx none) zA (fun e => by cases e)
          have zB := z_keep (grown_of_below hbx none) zB (fun e => by cases e)
          have hbw := below_trans hb0 hbx
          have hs1 : w.heap.size + 2 ≤ w1.heap.size := by have := HS2.out; have := hb1.size; omega
          clear c0 c1 c2
          go_upto_region 4 with fail
          generalize w1.alloc (.cells #[.slice bo n c, .int .i64 (at1 : Nat), .int .i64 (0 : Nat)] 51 (0, 0)) = W2 at *
          obtain ⟨c0, c1, c2, _⟩ := box_cells zA
          obtain ⟨x0, x1, x2, x3⟩ := box_cells zX
          have hxl : n - at1 = n - at0 - K := by
            have h1 := congrArg List.length hdr
            rw [List.length_drop, List.length_drop, HLD.out, hR.len] at h1
            exact h1
          have HDR := hide hdr
          have u1 : IntKind.u64.wrap (M : Int) = M := by go_arith
          clear hdr
          go_upto_if 26 with fail
          go_cut [1] from 25 to 26 (fun v1 wr => v1 = .int .i64 M ∧ wr = W2)
          case first =>
            rcases HMC.out with ⟨t1, e⟩ | ⟨t1, e⟩
            all_goals
              have HX := hide e
              clear e
              go_wp2_with fail
              go_meet
              case rel => exact ⟨by rw [HX.out] <;> rfl, rfl⟩
          case rest =>
            obtain ⟨rfl, rfl⟩ := hcut
            have j3 : (n : Int) - at1 < N := by omega
            have j4 : (at1 : Int) ≤ n := by omega
            have j5 : (n : Int) ≤ 140737488351232 := by omega
            clear hq2
            go_wp2_with fail
            refine rfail_any.mono ?_
            rintro e w3 ⟨rfl, hb3⟩
            have zB3 := z_keep (grown_of_below hb3 none) zB (fun e => by cases e)
            have hb4 := below_trans hbw hb3
            obtain ⟨d0, d1, d2, d3⟩ := box_cells zB3
            have g0 := d3 0
            have g1 := d3 1
            have g2 := d3 2
            obtain ⟨v0, v1, v2, _⟩ := box_cells (box_put zB3 (.slice bo n c) (.int .i64 at0) (.int .i64 4))
            have hgr := box_grown w3 (w.heap.size + 1) (.slice bo n c) (.int .i64 at0) (.int .i64 4)
            clear d3 zB3
            go_wp2_with fail
            exact bodyPost_ret (v := .tuple #[.agg #[.slice bo n c, .int .i64 at0, .int .i64 4], .slice none 0 0]) (by simp [results, Try.results31, asAddr, go_sem, v0, v1, v2]) rfl ⟨at0, none, 0, 0, rfl, hat, rfl, OwnS.nilRow _ _, hb4.grown hgr hb4.size (fun k hk => by cases hk; exact Nat.le_succ _)⟩
        · have HB := hide (HK.out.2.2 hq (by simpa [HLD.out] using hq2))
          rw [HB.out]
          clear hq
          go_enter Try.func31, Try.ntmps31
          go_upto_region 1 with fail
          generalize (w.alloc (.cells #[.slice bo n c, .int .i64 at0, .int .i64 ((0 : Nat) : Int)] 51 (0, 0))).alloc (.cells #[.slice none 0 0, .int .i64 0, .int .i64 0] 51 (0, 0)) = W0 at *
          obtain ⟨c0, c1, c2, _⟩ := box_cells zA
          go_wp2_with fail
          refine HRD.out.mono ?_
          rintro e w1 ⟨at1, rfl, hat1, hdr, hb1⟩
          have hbx := below_trans hb1 (below_alloc w1 (.cells #[.slice bo n c, .int .i64 (at1 : Nat), .int .i64 (0 : Nat)] 51 (0, 0)))
          have zX := heap_alloc_new w1 (.cells #[.slice bo n c, .int .i64 (at1 : Nat), .int .i64 (0 : Nat)] 51 (0, 0))
          have zA := z_keep (grown_of_below hbx none) zA (fun e => by cases e)
          have zB := z_keep (grown_of_below hbx none) zB (fun e => by cases e)
          have hbw := below_trans hb0 hbx
          have hs1 : w.heap.size + 2 ≤ w1.heap.size := by have := HS2.out; have := hb1.size; omega
          clear c0 c1 c2
          go_upto_region 4 with fail
          generalize w1.alloc (.cells #[.slice bo n c, .int .i64 (at1 : Nat), .int .i64 (0 : Nat)] 51 (0, 0)) = W2 at *
          obtain ⟨c0, c1, c2, _⟩ := box_cells zA
          obtain ⟨x0, x1, x2, x3⟩ := box_cells zX
          have hxl : n - at1 = n - at0 - K := by
            have h1 := congrArg List.length hdr
            rw [List.length_drop, List.length_drop, HLD.out, hR.len] at h1
            exact h1
          have HDR := hide hdr
          have u1 : IntKind.u64.wrap (M : Int) = M := by go_arith
          clear hdr
          go_upto_if 26 with fail
          go_cut [1] from 25 to 26 (fun v1 wr => v1 = .int .i64 M ∧ wr = W2)
          case first =>
            rcases HMC.out with ⟨t1, e⟩ | ⟨t1, e⟩
            all_goals
              have HX := hide e
              clear e
              go_wp2_with fail
              go_meet
              case rel => exact ⟨by rw [HX.out] <;> rfl, rfl⟩
          case rest =>
            obtain ⟨rfl, rfl⟩ := hcut
            have j3 : (N : Int) ≤ (n : Int) - at1 := by omega
            have j4 : (at1 : Int) ≤ n := by omega
            have j5 : (n : Int) ≤ 140737488351232 := by omega
            have j6 : (n : Int) ≤ c := by omega
            have j7 : at1 + N ≤ n := by omega
            clear hq2
            obtain ⟨p, hp⟩ : ∃ p, (if c = at1 then bo else bo.map fun x => x.add at1) = p := ⟨_, rfl⟩
            have hRp := ((hR.below hbw).dropO byteE_ok hat1).take byteE_ok (k := N) (by omega)
            rw [show at1 * byteE.size = at1 from Nat.mul_one _, hp, HDR.out] at hRp
            have hN0 : (N : Int) ≤ 140737488351232 := by omega
            have bE := below_alloc wc (.cells #[] 5)
            obtain ⟨y0, y1, y2, _⟩ := box_cells (z_keep (grown_of_below bE none) zX (fun e => by cases e))
            have hsx : w1.heap.size < wc.heap.size := lt_of_block zX
            have HP := hide hp
            go_upto_region 12 with fail
            go_wp2_with (at_builtin; refine wpList_app byteE_ok sT8 rfl (.tmp 44) (.tmp 54) rfl rfl (OwnS.emptyRow wc (Nat.le_refl _)) (congrArg (fun q => Value.slice p q (c - at1)) (Nat.add_sub_cancel_left at1 N)) (hRp.below bE) (by omega) (by unfold maxLen; omega) (by simp) ?_)
            intro ao' c' w5 ho hg hnil
            have hb5 := bE.grown hg (by simp) (fun k hk => by simp [Value.ownBlock] at hk; omega)
            have zB5 := z_keep (grown_of_below hb5 none) zB (fun e => by cases e)
            have zX5 := z_keep (grown_of_below hb5 none) zX (fun e => by cases e)
            have hbw5 := below_trans hbw hb5
            clear c0 c1 c2 x0 x1 x2 y0 y1 y2
            obtain ⟨x0, x1, x2, x3⟩ := box_cells zX5
            have f1 := x3 1
            clear x3
            have hg1 := grown_setCell w5 ⟨w1.heap.size, 1, none⟩ (.int .i64 ((at1 : Int) + (N : Int)))
            have zX6 : (w5.setCell ⟨w1.heap.size, 1, none⟩ (.int .i64 ((at1 : Int) + (N : Int)))).heap[w1.heap.size]? = some (.cells #[.slice bo n c, .int .i64 ((at1 : Int) + (N : Int)), .int .i64 ((0 : Nat) : Int)] 51 (0, 0)) := by rw [heap_set zX5]; rfl
            have zB6 := z_keep hg1 zB5 (fun e => by have := Option.some.inj e; simp at this; omega)
            have hb6 := hbw5.grown hg1 hbw5.size (fun k hk => by cases hk; show w.heap.size ≤ w1.heap.size; omega)
            have ho6 := ho.grown hg1 (.inr (ho.notAt hsx))
            go_upto_region 14 with fail
            generalize w5.setCell ⟨w1.heap.size, 1, none⟩ (.int .i64 ((at1 : Int) + (N : Int))) = W6 at *
            clear x0 x1 x2 f1
            obtain ⟨x0, x1, x2, _⟩ := box_cells zX6
            obtain ⟨d0, d1, d2, d3⟩ := box_cells zB6
            have g0 := d3 0
            have g1 := d3 1
            have g2 := d3 2
            obtain ⟨v0, v1, v2, _⟩ := box_cells (box_put zB6 (.slice bo n c) (.int .i64 ((at1 : Int) + (N : Int))) (.int .i64 0))
            have hgr := box_grown W6 (w.heap.size + 1) (.slice bo n c) (.int .i64 ((at1 : Int) + (N : Int))) (.int .i64 0)
            clear d3
            go_wp2_with fail
            refine bodyPost_ret (v := .tuple #[.agg #[.slice bo n c, .int .i64 ((at1 : Int) + (N : Int)), .int .i64 0], .slice ao' N c']) (by simp [results, Try.results31, asAddr, go_sem, v0, v1, v2]) rfl ⟨at1 + N, ao', N, c', by simp, by omega, ?_, ?_, hb6.grown hgr hb6.size (fun k hk => by cases hk; exact Nat.le_succ _)⟩
            · have hl9 := hR.len
              omega
            · have ho7 := (ho6.grown hgr (.inr (ho6.notAt (by omega)))).mono (base' := w.heap.size) (by omega)
              simpa using ho7
  · have q1 : ((er : Int) != 0) = true := by simpa using h0
    have HE : Hidden (bytesR most (xs.drop at0, er) = ((xs.drop at0, er), [])) := hide (by unfold bytesR; rw [if_pos h0])
    rw [HE.out]
    clear HE h0
    go_enter Try.func31, Try.ntmps31
    go_upto_region 1 with fail
    generalize (w.alloc (.cells #[.slice bo n c, .int .i64 at0, .int .i64 er] 51 (0, 0))).alloc (.cells #[.slice none 0 0, .int .i64 0, .int .i64 0] 51 (0, 0)) = W0 at *
    obtain ⟨c0, c1, c2, _⟩ := box_cells zA
    obtain ⟨d0, d1, d2, d3⟩ := box_cells zB
    have g0 := d3 0
    have g1 := d3 1
    have g2 := d3 2
    obtain ⟨v0, v1, v2, _⟩ := box_cells (box_put zB (.slice bo n c) (.int .i64 at0) (.int .i64 er))
    have hgr := box_grown W0 (w.heap.size + 1) (.slice bo n c) (.int .i64 at0) (.int .i64 er)
    clear d3
    go_wp2_with fail
    exact bodyPost_ret (v := .tuple #[.agg #[.slice bo n c, .int .i64 at0, .int .i64 er], .slice none 0 0]) (by simp [results, Try.results31, asAddr, go_sem, v0, v1, v2]) rfl ⟨at0, none, 0, 0, rfl, hat, rfl, OwnS.nilRow _ _, hb0.grown hgr hb0.size (fun k hk => by cases hk; exact Nat.le_succ _)⟩
end Go.Proofs.Ytpnliafjiookpaa
