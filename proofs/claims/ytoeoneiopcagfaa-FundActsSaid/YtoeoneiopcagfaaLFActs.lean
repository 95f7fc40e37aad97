/- FundActs: whatever is laid and taken back, at whatever heights: each answer, and how it stands. -/
import Derived.Test.YtoeoneiopcagfaaFundRe
import Derived.Test.YtoeoneiopcagfaaFundF
import Derived.StillTailTactics
import Derived.Deep.RegionWith
namespace Go.Proofs.Ytoeoneiopcagfaa
open Go.RowKit

set_option maxRecDepth 100000 in
set_option maxHeartbeats 8000000 in
theorem facts_any {ao aq : Option Addr} {n c m cq : Nat} {l : List Int} {acts : List ActX} {due now : Int} {w : World} (hR : RdS intE w ao n c l) (hn : n ≤ 17592186043904) (hA : RdS actE w aq m cq acts) :
    Calls Try.prog 5 #[.agg #[.slice ao n c, .int .i64 due], .slice aq m cq, .int .i64 now] w fun e w' => e = .returned (.bool true) ∧ Below w.heap.size w w' := by
  have hb0 := below_alloc w (.cells #[.slice ao n c, .int .i64 due] 24 (0, 0))
  have hz := heap_alloc_new w (.cells #[.slice ao n c, .int .i64 due] 24 (0, 0))
  have hlt0 : w.heap.size < (w.alloc (.cells #[.slice ao n c, .int .i64 due] 24 (0, 0))).heap.size := by simp
  have hlen := hR.len
  have hnn : n ≤ 140737488351232 := by omega
  have HL := hide hlen
  have HNN := hide hnn
  clear hlen hnn
  go_enter Try.func5, Try.ntmps5
  go_upto_region 1 with fail
  generalize w.alloc (.cells #[.slice ao n c, .int .i64 due] 24 (0, 0)) = W0 at *
  have hcells : ∀ W, Below W0.heap.size W0 W → W.cell? ⟨w.heap.size, 0, none⟩ = some (.slice ao n c) ∧ W.cell? ⟨w.heap.size, 1, none⟩ = some (.int .i64 due) := fun W hb => by
    have h := (hb.block _ hlt0).trans hz
    constructor
    · unfold World.cell?; rw [h]; rfl
    · unfold World.cell?; rw [h]; rfl
  have HC := hide hcells
  obtain ⟨d0, d1⟩ := hcells _ (Below.refl _ _)
  clear hcells hz
  have hR0 := hR.below hb0
  have hA0 := hA.below hb0
  by_cases h40 : m ≤ 40
  · have t1 : (m : Int) ≤ 40 := by omega
    by_cases hE : newFErr l due = 0
    · have HE := hide hE
      clear hE
      go_wp2_with fail
      refine (fundnew_ok hR0 HNN.out HE.out).mono ?_
      rintro e w2 ⟨g, rfl, h, hk, hb2⟩
      obtain ⟨d2, d3⟩ := HC.out _ hb2
      have hle : W0.heap.size ≤ g := h.le
      obtain ⟨so, sc, hq⟩ := h
      go_wp2_with fail
      refine (newFR_ok (hR0.below hb2) HE.out).mono ?_
      rintro e w3 ⟨s2, k2, lo, lc, rfl, hst, hla, hb3⟩
      have hq := hq.below hb3
      have hb := below_trans hb2 hb3
      have bW := below_alloc w3 (.cells #[.slice s2 n k2, .slice lo n lc, .int .i64 due] 40 (0, 0))
      have hq := hq.below bW
      have hgW : W0.heap.size ≤ w3.heap.size := hb.size
      have hb := below_trans hb bW
      have hfl : (⟨l, due, List.replicate n false⟩ : FundX).stakes.length = n := HL.out
      obtain ⟨F, hF⟩ : ∃ F : FundX, F = ⟨l, due, List.replicate n false⟩ := ⟨_, rfl⟩
      have hrs : RefS (w3.alloc (.cells #[.slice s2 n k2, .slice lo n lc, .int .i64 due] 40 (0, 0))) w3.heap.size n s2 k2 lo lc F := by
        rw [hF]
        exact RefS.new (f := ⟨l, due, List.replicate n false⟩) (hst.mono (Nat.zero_le _)) (hla.mono (Nat.zero_le _))
      rw [← hF] at hq hk hfl
      have HFL := hide hfl
      clear d0 d1 d2 d3 hF hfl hb2 hb3 bW hst hla
      go_wp2_with fail
      generalize w3.heap.size = gW at *
      go_loopw [11] (fun v11 wr => ∃ (i : Nat) (f : FundX) (lo : Option Addr) (lc : Nat), v11 = .int .i64 i ∧ i ≤ m ∧ FundQ wr W0.heap.size g so sc f ∧ f.Ok ∧ Hidden (f.stakes.length = n) ∧ RefS wr gW n s2 k2 lo lc f ∧ Below W0.heap.size W0 wr) (fun v11 _ => m - (intOf v11).toNat)
      case atStart => exact ⟨0, F, lo, lc, rfl, Nat.zero_le _, hq, hk, HFL, hrs, hb⟩
      case round =>
        clear hq hk hrs hb HFL
        obtain ⟨i, f, lo, lc, rfl, hi, hq, hk, HFL, hrs, hb⟩ := hrel
        by_cases hlt : i < m
        · obtain ⟨x, hx, _, _⟩ := hA0.next hlt
          obtain ⟨b, o, rfl, c0, c1, c2, c3⟩ := act_at (hA0.below hb) hx
          have HX := hide hx
          have ilI : (i : Int) < (m : Int) := by omega
          clear hx
          go_upto_if 63 with fail
          go_cut [12, 13, 14, 15, 16, 17, 18, 19] from 59 to 139 (fun _ _ _ _ _ _ _ _ wr2 => ∃ (f2 : FundX) (lo2 : Option Addr) (lc2 : Nat), FundQ wr2 W0.heap.size g so sc f2 ∧ f2.Ok ∧ Hidden (f2.stakes.length = n) ∧ RefS wr2 gW n s2 k2 lo2 lc2 f2 ∧ Below W0.heap.size W0 wr2)
          case first =>
            cases hbk : x.back
            · rw [hbk] at c0
              clear hbk
              go_wp2_with fail
              go_still_tail 16, (by kernel_rfl)
              change wpList _ _ _ _ _ wr.drew
              have hd : Below wr.heap.size wr wr.drew := (Below.refl _ _).drew
              have hq := hq.below hd
              have hrs := hrs.below hd
              have hb := below_trans hb hd
              clear c0 c1 c2 c3 hd
              generalize wr.drew = W1 at *
              go_wp2_with fail
              refine (lay_anyQ (seat := x.seat) (amount := x.amount) (now := x.now) hq hk).mono ?_
              rintro e w4 ⟨rfl, hq4, hg4⟩
              have hb4 := hb.grown hg4 hb.size (fun k hk => by cases hk; exact hle)
              have hrs4 := hrs.keep hg4 hq.hh (by decide) (by decide) (by decide)
              have hk4 := hk.lay x.seat x.amount x.now
              have hfl4 : (layF f x.seat x.amount x.now).1.stakes.length = n := by rw [layF_stakes]; exact HFL.out
              clear hg4
              have hcz : ∀ W, Below w4.heap.size w4 W → W.cell? ⟨b, o + i * 4 + 1, none⟩ = some (.int .i64 x.seat) ∧ W.cell? ⟨b, o + i * 4 + 2, none⟩ = some (.int .i64 x.amount) ∧ W.cell? ⟨b, o + i * 4 + 3, none⟩ = some (.int .i64 x.now) ∧ W.cell? ⟨gW, 0, none⟩ = some (.slice s2 n k2) ∧ W.cell? ⟨gW, 1, none⟩ = some (.slice lo n lc) ∧ W.cell? ⟨gW, 2, none⟩ = some (.int .i64 f.due) := fun W hW => by
                obtain ⟨b', o', he, k0, k1, k2, k3⟩ := act_at (hA0.below (below_trans hb4 hW)) HX.out
                cases he
                exact ⟨k1, k2, k3, (hrs4.below hW).cells⟩
              have hrw : ∀ W, Below w4.heap.size w4 W → RdS intE W s2 n k2 f.stakes ∧ OwnS boolE W 0 lo n lc f.laid := fun W hW => ⟨(hrs4.below hW).st.rd, (hrs4.below hW).la⟩
              have bZ := below_alloc w4 (.cells #[.slice none 0 0, .slice none 0 0, .int .i64 0] 40 (0, 0))
              have zZ := heap_alloc_new w4 (.cells #[.slice none 0 0, .slice none 0 0, .int .i64 0] 40 (0, 0))
              have HCZ := hide hcz
              have HRW := hide hrw
              have hst4 := hrs4.st
              clear hcz hrw
              go_upto_region 19 with fail
              go_cut [18, 19] from 116 to 135 (fun v18 v19 wq => ∃ (g3 : Nat) (lo3 : Option Addr) (lc3 : Nat), v18 = .pointer (some ⟨g3, 0, none⟩) ∧ v19 = .int .i64 (layF f x.seat x.amount x.now).2 ∧ RefS wq g3 n s2 k2 lo3 lc3 (layF f x.seat x.amount x.now).1 ∧ w4.heap.size ≤ g3 ∧ Below w4.heap.size w4 wq)
              case first =>
                have hbd := (Below.refl w4.heap.size w4).drew
                have hbz := bZ.drew
                have hfs : (layF f x.seat x.amount x.now).1.stakes = f.stakes := layF_stakes ..
                go_region_held3 (fun w' : World => w'.cell? ⟨b, o + i * 4 + 1, none⟩ = some (.int .i64 x.seat) ∧ w'.cell? ⟨b, o + i * 4 + 2, none⟩ = some (.int .i64 x.amount) ∧ w'.cell? ⟨b, o + i * 4 + 3, none⟩ = some (.int .i64 x.now) ∧ w'.cell? ⟨gW, 0, none⟩ = some (.slice s2 n k2) ∧ w'.cell? ⟨gW, 1, none⟩ = some (.slice lo n lc) ∧ w'.cell? ⟨gW, 2, none⟩ = some (.int .i64 f.due)) (first | exact HCZ.out _ hbd | exact HCZ.out _ hbz | exact HCZ.out _ hb5 | exact HCZ.out _ (below_trans hb5 (below_alloc w5 _)) | exact HCZ.out _ (hb5.grown (box_grown w5 _ _ _ _) hb5.size (fun k hk => by cases hk; exact Nat.le_refl _))) (first
                  | (go_at_call 21; refine (layR_use (seat := x.seat) (amount := x.amount) (now := x.now) (HRW.out _ hbd).1 (HRW.out _ hbd).2 hk).mono ?_; rintro e w5 ⟨lo3, lc3, rfl, hol, hb5'⟩; have hb5 := below_trans hbd hb5')
                  | (go_at_call 21; refine (layR_use (seat := x.seat) (amount := x.amount) (now := x.now) (HRW.out _ hbz).1 (HRW.out _ hbz).2 hk).mono ?_; rintro e w5 ⟨lo3, lc3, rfl, hol, hb5'⟩; have hb5 := below_trans hbz hb5'; have hz5 := z_keep (grown_of_below hb5' none) zZ (fun e => by cases e); obtain ⟨q0, q1, q2, q3⟩ := box_cells hz5; have r0 := q3 0; have r1 := q3 1; have r2 := q3 2))
                all_goals
                  have hst5 := hst4.below hb5
                  rw [← hfs] at hst5
                  clear hfs
                  go_wp2_with fail
                  go_meet
                  case rel =>
                    first
                      | exact ⟨_, lo3, lc3, rfl, rfl, RefS.new hst5 hol, hb5.size, below_trans hb5 (below_alloc w5 _)⟩
                      | exact ⟨_, lo3, lc3, rfl, rfl, RefS.put hz5 hst5 hol, Nat.le_refl _, hb5.grown (box_grown w5 _ _ _ _) hb5.size (fun k hk => by cases hk; exact Nat.le_refl _)⟩
              case rest =>
                obtain ⟨g3, lo3, lc3, rfl, rfl, hrs5, hg3, hb5⟩ := hcut
                have hq5 := hq4.below hb5
                have hb6 := below_trans hb4 hb5
                have hzW := z_keep (grown_of_below hb5 none) hrs4.hz (fun e => by cases e)
                have HFL4 := hide hfl4
                generalize (layF f x.seat x.amount x.now).2 = er at *
                generalize (layF f x.seat x.amount x.now).1 = f4 at *
                clear hfl4 hq hrs hb hb4 hrs4 hq4 hk hst4 bZ zZ
                obtain ⟨x0, x1, x2⟩ := hrs5.cells
                obtain ⟨y0, y1, y2, y3⟩ := box_cells hzW
                have e0 := y3 0
                have e1 := y3 1
                have e2 := y3 2
                clear y3
                have hgr := box_grown wc gW (.slice s2 n k2) (.slice lo3 n lc3) (.int .i64 f4.due)
                have hrs6 := RefS.put hzW hrs5.st hrs5.la
                have hq6 := hq5.keep hgr (fun e => by have := Option.some.inj e; subst this; have h1 := hq5.hh; rw [hzW] at h1; cases h1) (by rw [HFL4.out]; have h2 := hq5.own; rw [HFL4.out] at h2; exact .inr (h2.notRow hzW (by decide)))
                have hb7 := hb6.grown hgr hb6.size (fun k hk => by cases hk; exact hgW)
                go_wp2_with fail
                go_meet
                case rel => exact ⟨f4, lo3, lc3, hq6, hk4, HFL4, hrs6, hb7⟩
            · rw [hbk] at c0
              clear hbk
              go_wp2_with fail
              have hcx : ∀ W, Below W0.heap.size W0 W → W.cell? ⟨b, o + i * 4 + 1, none⟩ = some (.int .i64 x.seat) ∧ W.cell? ⟨b, o + i * 4 + 3, none⟩ = some (.int .i64 x.now) := fun W hW => by
                obtain ⟨b', o', he, k0, k1, k2, k3⟩ := act_at (hA0.below hW) HX.out
                cases he
                exact ⟨k1, k3⟩
              have HCX := hide hcx
              have hd : Below wr.heap.size wr wr.drew := (Below.refl _ _).drew
              have hq := hq.below hd
              have hrs := hrs.below hd
              have hb := below_trans hb hd
              clear c0 c1 c2 c3 hd hcx
              go_region_held3 (fun w' : World => w'.cell? ⟨b, o + i * 4 + 1, none⟩ = some (.int .i64 x.seat) ∧ w'.cell? ⟨b, o + i * 4 + 3, none⟩ = some (.int .i64 x.now)) (first | exact HCX.out _ hb | exact HCX.out _ hb4) (first
                | (go_at_call 19; refine (back_anyQ (seat := x.seat) (now := x.now) hq hk).mono ?_; rintro e w4 ⟨rfl, hq4, hg4⟩; have hb4 := hb.grown hg4 hb.size (fun k hk => by cases hk; exact hle)))
              all_goals
                have hrs4 := hrs.keep hg4 hq.hh (by decide) (by decide) (by decide)
                have hk4 := hk.back x.seat
                have hfl4 : (backF f x.seat).1.stakes.length = n := by rw [backF_stakes]; exact HFL.out
                clear hg4
                have hcz : ∀ W, Below w4.heap.size w4 W → W.cell? ⟨b, o + i * 4 + 1, none⟩ = some (.int .i64 x.seat) ∧ W.cell? ⟨gW, 0, none⟩ = some (.slice s2 n k2) ∧ W.cell? ⟨gW, 1, none⟩ = some (.slice lo n lc) ∧ W.cell? ⟨gW, 2, none⟩ = some (.int .i64 f.due) := fun W hW => by
                  obtain ⟨b', o', he, k0, k1, k2, k3⟩ := act_at (hA0.below (below_trans hb4 hW)) HX.out
                  cases he
                  exact ⟨k1, (hrs4.below hW).cells⟩
                have hrw : ∀ W, Below w4.heap.size w4 W → RdS intE W s2 n k2 f.stakes ∧ OwnS boolE W 0 lo n lc f.laid := fun W hW => ⟨(hrs4.below hW).st.rd, (hrs4.below hW).la⟩
                have bZ := below_alloc w4 (.cells #[.slice none 0 0, .slice none 0 0, .int .i64 0] 40 (0, 0))
                have zZ := heap_alloc_new w4 (.cells #[.slice none 0 0, .slice none 0 0, .int .i64 0] 40 (0, 0))
                have HCZ := hide hcz
                have HRW := hide hrw
                have hst4 := hrs4.st
                clear hcz hrw
                go_upto_region 14 with fail
                go_cut [14, 15, 16] from 79 to 89 (fun v14 v15 v16 wq => ∃ (g3 : Nat) (lo3 : Option Addr) (lc3 : Nat), v14 = .pointer (some ⟨g3, 0, none⟩) ∧ v15 = .int .i64 (backF f x.seat).2.1 ∧ v16 = .int .i64 (backF f x.seat).2.2 ∧ RefS wq g3 n s2 k2 lo3 lc3 (backF f x.seat).1 ∧ w4.heap.size ≤ g3 ∧ Below w4.heap.size w4 wq)
                case first =>
                  have hbd := (Below.refl w4.heap.size w4).drew
                  have hbz := bZ.drew
                  have hfs : (backF f x.seat).1.stakes = f.stakes := backF_stakes ..
                  go_region_held3 (fun w' : World => w'.cell? ⟨b, o + i * 4 + 1, none⟩ = some (.int .i64 x.seat) ∧ w'.cell? ⟨gW, 0, none⟩ = some (.slice s2 n k2) ∧ w'.cell? ⟨gW, 1, none⟩ = some (.slice lo n lc) ∧ w'.cell? ⟨gW, 2, none⟩ = some (.int .i64 f.due)) (first | exact HCZ.out _ hbd | exact HCZ.out _ hbz | exact HCZ.out _ hb5 | exact HCZ.out _ (below_trans hb5 (below_alloc w5 _)) | exact HCZ.out _ (hb5.grown (box_grown w5 _ _ _ _) hb5.size (fun k hk => by cases hk; exact Nat.le_refl _))) (first
                    | (go_at_call 20; refine (backR_use (seat := x.seat) (HRW.out _ hbd).1 (HRW.out _ hbd).2 hk).mono ?_; rintro e w5 ⟨lo3, lc3, rfl, hol, hb5'⟩; have hb5 := below_trans hbd hb5')
                    | (go_at_call 20; refine (backR_use (seat := x.seat) (HRW.out _ hbz).1 (HRW.out _ hbz).2 hk).mono ?_; rintro e w5 ⟨lo3, lc3, rfl, hol, hb5'⟩; have hb5 := below_trans hbz hb5'; have hz5 := z_keep (grown_of_below hb5' none) zZ (fun e => by cases e); obtain ⟨q0, q1, q2, q3⟩ := box_cells hz5; have r0 := q3 0; have r1 := q3 1; have r2 := q3 2))
                  all_goals
                    have hst5 := hst4.below hb5
                    rw [← hfs] at hst5
                    clear hfs
                    go_wp2_with fail
                    go_meet
                    case rel =>
                      first
                        | exact ⟨_, lo3, lc3, rfl, rfl, rfl, RefS.new hst5 hol, hb5.size, below_trans hb5 (below_alloc w5 _)⟩
                        | exact ⟨_, lo3, lc3, rfl, rfl, rfl, RefS.put hz5 hst5 hol, Nat.le_refl _, hb5.grown (box_grown w5 _ _ _ _) hb5.size (fun k hk => by cases hk; exact Nat.le_refl _)⟩
                case rest =>
                  obtain ⟨g3, lo3, lc3, rfl, rfl, rfl, hrs5, hg3, hb5⟩ := hcut
                  have hq5 := hq4.below hb5
                  have hb6 := below_trans hb4 hb5
                  have hzW := z_keep (grown_of_below hb5 none) hrs4.hz (fun e => by cases e)
                  have HFL4 := hide hfl4
                  generalize (backF f x.seat).2.1 = ev at *
                  generalize (backF f x.seat).2.2 = er at *
                  generalize (backF f x.seat).1 = f4 at *
                  clear hfl4 hq hrs hb hb4 hrs4 hq4 hk hst4 bZ zZ
                  obtain ⟨x0, x1, x2⟩ := hrs5.cells
                  obtain ⟨y0, y1, y2, y3⟩ := box_cells hzW
                  have e0 := y3 0
                  have e1 := y3 1
                  have e2 := y3 2
                  clear y3
                  have hgr := box_grown wc gW (.slice s2 n k2) (.slice lo3 n lc3) (.int .i64 f4.due)
                  have hrs6 := RefS.put hzW hrs5.st hrs5.la
                  have hq6 := hq5.keep hgr (fun e => by have := Option.some.inj e; subst this; have h1 := hq5.hh; rw [hzW] at h1; cases h1) (by rw [HFL4.out]; have h2 := hq5.own; rw [HFL4.out] at h2; exact .inr (h2.notRow hzW (by decide)))
                  have hb7 := hb6.grown hgr hb6.size (fun k hk => by cases hk; exact hgW)
                  go_wp2_with fail
                  go_meet
                  case rel => exact ⟨f4, lo3, lc3, hq6, hk4, HFL4, hrs6, hb7⟩
          case rest =>
            clear hq hk hrs hb HFL c0 c1 c2 c3
            obtain ⟨f, lo, lc, hq, hk, HFL, hrs, hb⟩ := hcut
            have hcx : ∀ W, Below wc.heap.size wc W → W.cell? ⟨b, o + i * 4 + 3, none⟩ = some (.int .i64 x.now) ∧ W.cell? ⟨gW, 0, none⟩ = some (.slice s2 n k2) ∧ W.cell? ⟨gW, 1, none⟩ = some (.slice lo n lc) ∧ W.cell? ⟨gW, 2, none⟩ = some (.int .i64 f.due) := fun W hW => by
              obtain ⟨b', o', he, k0, k1, k2, k3⟩ := act_at (hA0.below (below_trans hb hW)) HX.out
              cases he
              exact ⟨k3, (hrs.below hW).cells⟩
            have hP : ∀ W, Below wc.heap.size wc W → FundP W W0.heap.size g f := fun W hW => ⟨so, sc, hq.below hW⟩
            have hRf : ∀ W, Below wc.heap.size wc W → RefP W s2 n k2 lo lc f := fun W hW => (hrs.below hW).ref
            have HCX := hide hcx
            have HP := hide hP
            have HRf := hide hRf
            have hbd := (Below.refl wc.heap.size wc).drew
            clear hcx hP hRf
            go_wp2_with fail
            go_region_held3 (fun w' : World => w'.cell? ⟨b, o + i * 4 + 3, none⟩ = some (.int .i64 x.now) ∧ w'.cell? ⟨gW, 0, none⟩ = some (.slice s2 n k2) ∧ w'.cell? ⟨gW, 1, none⟩ = some (.slice lo n lc) ∧ w'.cell? ⟨gW, 2, none⟩ = some (.int .i64 f.due)) (first | exact HCX.out _ hbd | exact HCX.out _ hb5 | exact HCX.out _ hb6) (first
              | (go_at_call_of 22 now; refine (alikeR_any (now := now) (HP.out _ hbd) (HRf.out _ hbd) hk).mono ?_; rintro e w5 ⟨rfl, hb5'⟩; have hb5 := below_trans hbd hb5')
              | (go_at_call_of 22 (x.now); refine (alikeR_any (now := x.now) (HP.out _ hb5) (HRf.out _ hb5) hk).mono ?_; rintro e w6 ⟨rfl, hb6'⟩; have hb6 := below_trans hb5 hb6'))
            all_goals
              go_wp2_with fail
              go_roundw
              case rel => exact ⟨i + 1, f, lo, lc, by simp, by omega, hq.below hb6, hk, HFL, hrs.below hb6, below_trans hb hb6⟩
              case measure => simp [intOf]; omega
        · obtain ⟨y0, y1, y2⟩ := hrs.cells
          go_wp2_with fail
          refine (alikeR_any (now := now) ⟨so, sc, hq⟩ hrs.ref hk).mono ?_
          rintro e w5 ⟨rfl, hb5⟩
          go_wp2_with fail
          refine (told_any _).mono ?_
          rintro e w6 ⟨rfl, hb7⟩
          go_wp2_with fail
          go_ret
          exact ⟨rfl, below_trans hb0 (below_trans (below_trans hb hb5) hb7)⟩
    · have hne : (newFErr l due != 0) = true := by simpa using hE
      have hne2 : (newFErr l due == 0) = false := by simpa using hE
      have HE := hide hE
      clear hE
      go_wp2_with fail
      refine (fundnew_no hR0 HNN.out HE.out).mono ?_
      rintro e w2 ⟨rfl, rfl⟩
      go_wp2_with fail
      refine (newFR_no hR0 HNN.out HE.out).mono ?_
      rintro e w3 ⟨rfl, hb3⟩
      have hb4 := below_trans hb3 (below_alloc w3 (.cells #[.slice none 0 0, .slice none 0 0, .int .i64 0] 40 (0, 0)))
      generalize newFErr l due = er at *
      go_wp2_with fail
      refine (told_any _).mono ?_
      rintro e w4 ⟨rfl, hb5⟩
      go_wp2_with fail
      go_ret
      exact ⟨rfl, below_trans hb0 (below_trans hb4 hb5)⟩
  · have t1 : (40 : Int) < m := by omega
    go_wp2_with fail
    refine (told_any _).mono ?_
    rintro e w4 ⟨rfl, hb4⟩
    go_wp2_with fail
    go_ret
    exact ⟨rfl, below_trans hb0 hb4⟩

theorem facts_walk : LawWalk 5 Try.f5.params.toList := by
  intro W args h
  obtain ⟨v0, v1, v2, rfl, h0, h1, h2⟩ := argsOk3 h
  obtain ⟨ao, n, c, l, due, rfl, hR, _, hn, _⟩ := one_start h0
  obtain ⟨aq, m, cq, acts, rfl, hA, _⟩ := one_acts h1
  obtain ⟨now, rfl, _, _⟩ := one_i64 Try.underlying3 h2
  exact facts_any hR hn hA

set_option maxRecDepth 100000 in
theorem fundActs_lifted (os : Os) (started : os.Started) (H : Type) (enc : TypeId × Value → H) :
    ReturnsInHanded {} Try.checked os 5 .any (Rows.fundActsSpec.pre6 enc Try.prog Try.f5 Rows.fundActsRow.domain false) (Rows.fundActsSpec.post enc Try.prog Try.f5 false true false false) :=
  law_lifted Try.func5 rfl rfl (by decide +kernel) (fun H ds h => by match ds, h with | [_, _, _], _ => rfl) (by kernel_rfl) os started H enc
    (ChangeSpec.witness6 (enc := enc) (C := Try.checked) false ⟨#[], #[.agg #[.slice none 0 0, .int .i64 0], .slice none 0 0, .int .i64 0], []⟩ 8 (by kernel_rfl) (by kernel_rfl) (by kernel_rfl) (by kernel_rfl)) facts_walk

theorem fundActs_proved : Rows.FundActsSaid :=
  OpenClaim.holds_of_wide 5 Try.f5 rfl rfl rfl rfl rfl rfl rfl ⟨rfl, rfl, rfl, rfl, rfl⟩ rfl rfl rfl rfl rfl (by kernel_rfl) Try.func5 (by kernel_rfl)
    (of_decide_eq_true (by kernel_rfl)) (by unfold Func.isWrapper; first | (rw [if_pos (by decide +kernel)]; kernel_rfl) | (rw [if_neg (by decide +kernel)]; exact ⟨rfl, rfl⟩))
    (fun os started H enc _ => fundActs_lifted os started H enc)
#print axioms fundActs_proved
end Go.Proofs.Ytoeoneiopcagfaa
