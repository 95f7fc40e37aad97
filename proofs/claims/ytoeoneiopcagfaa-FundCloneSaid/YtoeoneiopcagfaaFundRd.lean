/- The law's comparison of a fund with the document's: by its walk. -/
import Derived.Test.YtoeoneiopcagfaaFundRc
import Derived.Deep.RegionHeld3
namespace Go.Proofs.Ytoeoneiopcagfaa
open Go.RowKit

set_option maxRecDepth 100000 in
set_option maxHeartbeats 8000000 in
theorem alikeR_any {w : World} {base g : Nat} {so lo : Option Addr} {n sc lc : Nat} {f : FundX} {now : Int} (h : FundP w base g f) (hr : RefP w so n sc lo lc f) (hk : f.Ok) :
    Calls Try.prog 22 #[.pointer (some ⟨g, 0, none⟩), .agg #[.slice so n sc, .slice lo n lc, .int .i64 f.due], .int .i64 now] w fun e w' => e = .returned (.bool true) ∧ Below w.heap.size w w' := by
  have hn := hr.st.len
  have hm := hk.most
  rw [hn] at hm
  have n8 : (n : Int) ≤ 8 := by omega
  have hb0 := below_alloc w (.cells #[.slice so n sc, .slice lo n lc, .int .i64 f.due] 40 (0, 0))
  have hz := heap_alloc_new w (.cells #[.slice so n sc, .slice lo n lc, .int .i64 f.due] 40 (0, 0))
  have h0 := h.below hb0
  have hr0 := hr.below hb0
  have HNN := hide hn
  go_enter Try.func22, Try.ntmps22
  go_upto_region 1 with fail
  generalize w.alloc (.cells #[.slice so n sc, .slice lo n lc, .int .i64 f.due] 40 (0, 0)) = W0 at *
  have hcells : ∀ W, Below W0.heap.size W0 W → W.cell? ⟨w.heap.size, 0, none⟩ = some (.slice so n sc) ∧ W.cell? ⟨w.heap.size, 1, none⟩ = some (.slice lo n lc) ∧ W.cell? ⟨w.heap.size, 2, none⟩ = some (.int .i64 f.due) := fun W hb => by
    obtain ⟨k0, k1, k2, _⟩ := box_cells (z_keep (grown_of_below hb none) hz (fun e => by cases e))
    exact ⟨k0, k1, k2⟩
  have hP : ∀ W, Below W0.heap.size W0 W → FundP W base g f := fun W hb => h0.below hb
  have hR : ∀ W, Below W0.heap.size W0 W → RefP W so n sc lo lc f := fun W hb => hr0.below hb
  have hm9 : f.stakes.length ≤ 140737488351232 := by omega
  have hn9 : n ≤ 140737488351232 := by omega
  have HC := hide hcells
  have HP := hide hP
  have HR := hide hR
  have hb1 : Below W0.heap.size W0 W0.drew := (Below.refl _ _).drew
  clear hcells hP hR hn hz h0 hr0 h hr
  go_region_held3 (fun w' : World => w'.cell? ⟨w.heap.size, 0, none⟩ = some (.slice so n sc) ∧ w'.cell? ⟨w.heap.size, 1, none⟩ = some (.slice lo n lc) ∧ w'.cell? ⟨w.heap.size, 2, none⟩ = some (.int .i64 f.due)) (first | exact HC.out _ hb1 | exact HC.out _ hb2 | exact HC.out _ hb3 | exact HC.out _ hb4 | exact HC.out _ hb5 | exact HC.out _ hb6 | exact HC.out _ hb7) (first
    | (go_at_call 17; refine (phase_any (now := now) (HP.out _ hb1) hk).mono ?_; rintro e w2 ⟨rfl, hb2'⟩; have hb2 := below_trans hb1 hb2')
    | (go_at_call 35; refine (phaseR_any (now := now) (HR.out _ hb2) hm).mono ?_; rintro e w3 ⟨rfl, hb3'⟩; have hb3 := below_trans hb2 hb3')
    | (go_at_call 24; refine (held_any (HP.out _ hb3) hk).mono ?_; rintro e w4 ⟨rfl, hb4'⟩; have hb4 := below_trans hb3 hb4')
    | (go_at_call 36; refine (heldR_any (HR.out _ hb4) hk).mono ?_; rintro e w5 ⟨rfl, hb5'⟩; have hb5 := below_trans hb4 hb5')
    | (go_at_call 13; refine (stakes_any (HP.out _ hb5) hk).mono ?_; rintro e w6 ⟨a6, k6, rfl, ho6, hb6'⟩; have hb6 := below_trans hb5 hb6')
    | (go_at_call 14; refine (alike_any ho6.rd (HR.out _ hb6).st hm9 hn9).mono ?_; rintro e w7 ⟨rfl, hb7'⟩; rw [show decide (f.stakes = f.stakes) = true from by simp]; have hb7 := below_trans hb6 hb7'))
  all_goals
    go_wp2_with fail
    go_loopw [7] (fun v7 wr => ∃ j : Int, v7 = .int .i64 j ∧ -1 ≤ j ∧ j ≤ n + 1 ∧ Below W0.heap.size W0 wr) (fun v7 _ => (n + 1 - intOf v7).toNat)
    case atStart => exact ⟨-1, rfl, by omega, by omega, hb7⟩
    case round =>
      clear hb1 hb2' hb2 hb3' hb3 hb4' hb4 hb5' hb5 hb6' hb6 hb7' hb7 ho6
      obtain ⟨j, rfl, j0, j1, hb⟩ := hrel
      obtain ⟨c0, c1, c2⟩ := HC.out _ hb
      by_cases hlt : j ≤ n
      · have hbd := hb.drew
        go_wp2_with fail
        go_region_held3 (fun w' : World => w'.cell? ⟨w.heap.size, 0, none⟩ = some (.slice so n sc) ∧ w'.cell? ⟨w.heap.size, 1, none⟩ = some (.slice lo n lc) ∧ w'.cell? ⟨w.heap.size, 2, none⟩ = some (.int .i64 f.due)) (first | exact HC.out _ hbd | exact HC.out _ hb3) (first
          | (go_at_call 23; refine (given_any (seat := j) (HP.out _ hbd) hk).mono ?_; rintro e w2 ⟨rfl, rfl⟩)
          | (go_at_call 37; refine (givenR_any (seat := j) (HR.out _ hbd) hk).mono ?_; rintro e w3 ⟨rfl, hb3'⟩; have hb3 := below_trans hbd hb3'))
        all_goals
          go_wp2_with fail
          go_roundw
          case rel => exact ⟨j + 1, by simp, by omega, by omega, hb3⟩
          case measure => simp [intOf]; omega
      · have hlt2 : (n : Int) < j := by omega
        go_wp2_with fail
        go_ret
        exact ⟨rfl, below_trans hb0 hb⟩
end Go.Proofs.Ytoeoneiopcagfaa
