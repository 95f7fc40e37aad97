/- FundAll: all or nobody: as long as it isn't full each that laid its stake gets back all of it; once it is, nobody does. -/
import Derived.Test.YtoeoneiopcagfaaFundM
import Derived.Test.YtoeoneiopcagfaaFundCl
import Derived.Test.YtoeoneiopcagfaaFundF
import Derived.StillTailTactics
namespace Go.Proofs.Ytoeoneiopcagfaa
open Go.RowKit

set_option maxRecDepth 100000 in
set_option maxHeartbeats 4000000 in
theorem fall_any {ao aq : Option Addr} {n c m cq : Nat} {l : List Int} {acts : List ActX} {due now : Int} {w : World} (hR : RdS intE w ao n c l) (hn : n ≤ 17592186043904) (hA : RdS actE w aq m cq acts) :
    Calls Try.prog 8 #[.agg #[.slice ao n c, .int .i64 due], .slice aq m cq, .int .i64 now] w fun e w' => e = .returned (.bool true) ∧ Below w.heap.size w w' := by
  have hb0 := below_alloc w (.cells #[.slice ao n c, .int .i64 due] 24 (0, 0))
  have hz := heap_alloc_new w (.cells #[.slice ao n c, .int .i64 due] 24 (0, 0))
  have hlt0 : w.heap.size < (w.alloc (.cells #[.slice ao n c, .int .i64 due] 24 (0, 0))).heap.size := by simp
  have hlen := hR.len
  have hnn : n ≤ 140737488351232 := by omega
  have HL := hide hlen
  have HNN := hide hnn
  clear hlen hnn
  go_enter Try.func8, Try.ntmps8
  go_upto_region 1 with fail
  generalize w.alloc (.cells #[.slice ao n c, .int .i64 due] 24 (0, 0)) = W0 at *
  have hcells : ∀ W, Below W0.heap.size W0 W → W.cell? ⟨w.heap.size, 0, none⟩ = some (.slice ao n c) ∧ W.cell? ⟨w.heap.size, 1, none⟩ = some (.int .i64 due) := fun W hb => by
    have h := (hb.block _ hlt0).trans hz
    constructor
    · unfold World.cell?; rw [h]; rfl
    · unfold World.cell?; rw [h]; rfl
  have HC := hide hcells
  obtain ⟨d0, d1⟩ := hcells _ (Below.refl _ _)
  clear hcells hz
  have hR0 := hR.below hb0
  have hA0 := hA.below hb0
  by_cases h40 : m ≤ 40
  · have t1 : (m : Int) ≤ 40 := by omega
    by_cases hE : newFErr l due = 0
    · have HE := hide hE
      clear hE
      have hsF : sumF 0 l = (l.sum, 0) := by
        have h3 := (newF_ok HE.out).2.2.1
        have h4 := (sumF_parts l 0 h3).1
        exact Prod.ext (by rw [h4]; simp) h3
      have HSF := hide hsF
      clear hsF
      go_wp2_with fail
      refine (fundnew_ok hR0 HNN.out HE.out).mono ?_
      rintro e w2 ⟨g, rfl, h, hk, hb⟩
      have hm8 : n ≤ 8 := by have := hk.most; rw [show (⟨l, due, List.replicate n false⟩ : FundX).stakes.length = l.length from rfl, HL.out] at this; exact this
      obtain ⟨d2, d3⟩ := HC.out _ hb
      have hle : W0.heap.size ≤ g := h.le
      obtain ⟨F, hF, hFs⟩ : ∃ F : FundX, F = ⟨l, due, List.replicate n false⟩ ∧ F.stakes = l := ⟨_, rfl, rfl⟩
      rw [← hF] at h hk
      have HFS := hide hFs
      clear d0 d1 hF hFs
      go_wp2_with fail
      refine (sumR_any (hR0.below hb) HNN.out).mono ?_
      rintro e w3 ⟨rfl, rfl⟩
      rw [HSF.out]
      obtain ⟨S, hS⟩ : ∃ S, l.sum = S := ⟨_, rfl⟩
      have HS := hide hS
      rw [hS]
      clear d2 d3 hS
      go_wp2_with fail
      go_loopw [11] (fun v11 wr => ∃ (i : Nat) (f : FundX), v11 = .int .i64 i ∧ i ≤ m ∧ FundP wr W0.heap.size g f ∧ f.Ok ∧ Hidden (f.stakes = l) ∧ Below W0.heap.size W0 wr) (fun v11 _ => m - (intOf v11).toNat)
      case atStart => exact ⟨0, F, rfl, Nat.zero_le _, h, hk, HFS, hb⟩
      case round =>
        clear h hk hb HFS
        obtain ⟨i, f, rfl, hi, hq, hk, HFS, hb⟩ := hrel
        by_cases hlt : i < m
        · obtain ⟨x, hx, _, _⟩ := hA0.next hlt
          obtain ⟨b, o, rfl, c0, c1, c2, c3⟩ := act_at (hA0.below hb) hx
          clear hx
          go_upto_if 55 with fail
          go_cut [12] from 51 to 84 (fun _ wr2 => ∃ (f2 : FundX), FundP wr2 W0.heap.size g f2 ∧ f2.Ok ∧ Hidden (f2.stakes = l) ∧ Below W0.heap.size W0 wr2)
          case first =>
            cases hbk : x.back
            · rw [hbk] at c0
              clear hbk
              go_wp2_with fail
              go_still_tail 16, (by kernel_rfl)
              change wpList _ _ _ _ _ wr.drew
              have hd : Below wr.heap.size wr wr.drew := (Below.refl _ _).drew
              have hq := hq.below hd
              have hb := below_trans hb hd
              clear c0 c1 c2 c3 hd
              generalize wr.drew = W1 at *
              go_wp2_with fail
              refine (lay_any (seat := x.seat) (amount := x.amount) (now := x.now) hq hk).mono ?_
              rintro e w4 ⟨rfl, hq4, hg4⟩
              have hb4 := hb.grown hg4 hb.size (fun k hk => by cases hk; exact hle)
              have hk4 := hk.lay x.seat x.amount x.now
              have HF4 := hide (show (layF f x.seat x.amount x.now).1.stakes = l by rw [layF_stakes]; exact HFS.out)
              go_wp2_with fail
              go_meet
              case rel => exact ⟨_, hq4, hk4, HF4, hb4⟩
            · rw [hbk] at c0
              clear hbk
              go_wp2_with fail
              go_still_tail 11, (by kernel_rfl)
              change wpList _ _ _ _ _ wr.drew
              have hd : Below wr.heap.size wr wr.drew := (Below.refl _ _).drew
              have hq := hq.below hd
              have hb := below_trans hb hd
              clear c0 c1 c2 c3 hd
              generalize wr.drew = W1 at *
              go_wp2_with fail
              refine (back_any (seat := x.seat) (now := x.now) hq hk).mono ?_
              rintro e w4 ⟨rfl, hq4, hg4⟩
              have hb4 := hb.grown hg4 hb.size (fun k hk => by cases hk; exact hle)
              have hk4 := hk.back x.seat
              have HF4 := hide (show (backF f x.seat).1.stakes = l by rw [backF_stakes]; exact HFS.out)
              go_wp2_with fail
              go_meet
              case rel => exact ⟨_, hq4, hk4, HF4, hb4⟩
          case rest =>
            clear hq hk hb HFS c0 c1 c2 c3
            obtain ⟨f, hq, hk, HFS, hb⟩ := hcut
            have hph : (phaseF f now == 1) = fullF f := by
              unfold phaseF
              cases fullF f
              · by_cases h : f.due < now <;> simp [h]
              · simp
            have hhe : (heldF f == S) = fullF f := by
              rw [Bool.eq_iff_iff, ← held_full hk, HFS.out, HS.out]; simp
            generalize hbb : fullF f = bb at *
            have HBB := hide hbb
            clear hbb
            have HPH := hide hph
            have HHE := hide hhe
            clear hph hhe
            go_wp2_with fail
            refine (phase_any (now := now) hq hk).mono ?_
            rintro e w5 ⟨rfl, hb5⟩
            have hph := HPH.out
            have hq := hq.below hb5
            have hb := below_trans hb hb5
            go_wp2_with fail
            refine (held_any hq hk).mono ?_
            rintro e w6 ⟨rfl, hb6⟩
            have hhe := HHE.out
            have hq := hq.below hb6
            have hb := below_trans hb hb6
            obtain ⟨e0, e1⟩ := HC.out _ hb
            have hst : f.stakes.length = n := by rw [HFS.out, HL.out]
            have HST := hide hst
            clear hst
            go_wp2_with fail
            go_loopw [13] (fun v13 wr2 => ∃ (k : Nat), v13 = .int .i64 k ∧ k ≤ n ∧ Below w6.heap.size w6 wr2) (fun v13 _ => n - (intOf v13).toNat)
            case atStart => exact ⟨0, rfl, Nat.zero_le _, Below.refl _ _⟩
            case round =>
              clear hph hhe e0 e1
              obtain ⟨k, rfl, hkn, hbk⟩ := hrel
              obtain ⟨e0, e1⟩ := HC.out _ (below_trans hb hbk)
              by_cases hlt2 : k < n
              · have hkl : k < f.stakes.length := by rw [HST.out]; exact hlt2
                have hq7 := hq.below hbk
                have hcase : (0 < givenF f k ∧ bb = false ∧ (backF f k).2 = (givenF f k, 0)) ∨ (givenF f k = 0 ∧ (backF f k).2.1 = 0 ∧ ((backF f k).2.2 != 0) = true ∧ ((backF f k).2.2 == 0) = false) ∨
                    (0 < givenF f k ∧ bb = true ∧ (backF f k).2.1 = 0 ∧ ((backF f k).2.2 != 0) = true ∧ ((backF f k).2.2 == 0) = false) := by
                  rcases back_of hk hkl with ⟨p1, p2, p3⟩ | ⟨p1, p2, p3, p4⟩
                  · exact .inl ⟨p1, by rw [← HBB.out, p2], p3⟩
                  · rcases Int.lt_or_le 0 (givenF f k) with p5 | p5
                    · rcases p1 with p1 | p1
                      · omega
                      · exact .inr (.inr ⟨p5, by rw [← HBB.out, p1], p3, by simpa using p4, by simpa using p4⟩)
                    · exact .inr (.inl ⟨by omega, p3, by simpa using p4, by simpa using p4⟩)
                have HCS := hide hcase
                clear hcase hkl
                go_wp2_with fail
                refine (clone_any hq7 hk).mono ?_
                rintro e w7 ⟨g7, rfl, h7, hb7⟩
                go_wp2_with fail
                refine (given_any (seat := (k : Int)) (hq7.below hb7) hk).mono ?_
                rintro e w8 ⟨rfl, rfl⟩
                go_wp2_with fail
                refine (back_any (seat := (k : Int)) (now := now) h7 hk).mono ?_
                rintro e w9 ⟨rfl, _, hg9⟩
                have hb9 := below_trans hbk (hb7.grown hg9 hb7.size (fun k hk => by cases hk; exact h7.le))
                clear e0 e1 hq7 h7 hb7 hg9
                have hcs := HCS.out
                generalize givenF f k = z at *
                rcases hcs with ⟨p1, rfl, p3⟩ | ⟨rfl, p2, p3, p4⟩ | ⟨p1, rfl, p2, p3, p4⟩
                · rw [p3]
                  clear p3 HCS
                  go_wp2_with fail
                  go_roundw
                  case rel => exact ⟨k + 1, by simp, by omega, hb9⟩
                  case measure => simp [intOf]; omega
                · rw [p2]
                  generalize (backF f k).2.2 = er at *
                  clear p2 HCS
                  go_wp2_with fail
                  go_roundw
                  case rel => exact ⟨k + 1, by simp, by omega, hb9⟩
                  case measure => simp [intOf]; omega
                · rw [p2]
                  generalize (backF f k).2.2 = er at *
                  clear p2 HCS
                  go_wp2_with fail
                  go_roundw
                  case rel => exact ⟨k + 1, by simp, by omega, hb9⟩
                  case measure => simp [intOf]; omega
              · go_wp2_with fail
                go_roundw
                case rel => exact ⟨i + 1, f, by simp, by omega, hq.below hbk, hk, HFS, below_trans hb hbk⟩
                case measure => simp [intOf]; omega
        · go_wp2_with fail
          refine (told_any _).mono ?_
          rintro e w6 ⟨rfl, hb7⟩
          go_wp2_with fail
          go_ret
          exact ⟨rfl, below_trans hb0 (below_trans hb hb7)⟩
    · have hne : (newFErr l due != 0) = true := by simpa using hE
      have HE := hide hE
      clear hE
      go_wp2_with fail
      refine (fundnew_no hR0 HNN.out HE.out).mono ?_
      rintro e w2 ⟨rfl, rfl⟩
      go_wp2_with fail
      refine (told_any _).mono ?_
      rintro e w4 ⟨rfl, hb4⟩
      go_wp2_with fail
      go_ret
      exact ⟨rfl, below_trans hb0 hb4⟩
  · have t1 : (40 : Int) < m := by omega
    go_wp2_with fail
    refine (told_any _).mono ?_
    rintro e w4 ⟨rfl, hb4⟩
    go_wp2_with fail
    go_ret
    exact ⟨rfl, below_trans hb0 hb4⟩


theorem fall_walk : LawWalk 8 Try.f8.params.toList := by
  intro W args h
  obtain ⟨v0, v1, v2, rfl, h0, h1, h2⟩ := argsOk3 h
  obtain ⟨ao, n, c, l, due, rfl, hR, _, hn, _⟩ := one_start h0
  obtain ⟨aq, m, cq, acts, rfl, hA, _⟩ := one_acts h1
  obtain ⟨now, rfl, _, _⟩ := one_i64 Try.underlying3 h2
  exact fall_any hR hn hA

set_option maxRecDepth 100000 in
theorem fundAll_lifted (os : Os) (started : os.Started) (H : Type) (enc : TypeId × Value → H) :
    ReturnsInHanded {} Try.checked os 8 .any (Rows.fundAllSpec.pre6 enc Try.prog Try.f8 Rows.fundAllRow.domain false) (Rows.fundAllSpec.post enc Try.prog Try.f8 false true false false) :=
  law_lifted Try.func8 rfl rfl (by decide +kernel) (fun H ds h => by match ds, h with | [_, _, _], _ => rfl) (by kernel_rfl) os started H enc
    (ChangeSpec.witness6 (enc := enc) (C := Try.checked) false ⟨#[], #[.agg #[.slice none 0 0, .int .i64 0], .slice none 0 0, .int .i64 0], []⟩ 8 (by kernel_rfl) (by kernel_rfl) (by kernel_rfl) (by kernel_rfl)) fall_walk

theorem fundAll_proved : Rows.FundAllSaid :=
  OpenClaim.holds_of_wide 8 Try.f8 rfl rfl rfl rfl rfl rfl rfl ⟨rfl, rfl, rfl, rfl, rfl⟩ rfl rfl rfl rfl rfl (by kernel_rfl) Try.func8 (by kernel_rfl)
    (of_decide_eq_true (by kernel_rfl)) (by unfold Func.isWrapper; first | (rw [if_pos (by decide +kernel)]; kernel_rfl) | (rw [if_neg (by decide +kernel)]; exact ⟨rfl, rfl⟩))
    (fun os started H enc _ => fundAll_lifted os started H enc)
#print axioms fundAll_proved
end Go.Proofs.Ytoeoneiopcagfaa
