/- FundClone: a clone goes on by itself; whether two are the same. -/
import Derived.Test.YtoeoneiopcagfaaFundSb
import Derived.Test.YtoeoneiopcagfaaFundCl
import Derived.StillTailTactics
import Derived.Deep.RegionWith
namespace Go.Proofs.Ytoeoneiopcagfaa
open Go.RowKit

set_option maxRecDepth 100000 in
set_option maxHeartbeats 8000000 in
theorem fclone_any {ao aq : Option Addr} {n c m cq : Nat} {l : List Int} {acts : List ActX} {due : Int} {x : ActX} {w : World} (hR : RdS intE w ao n c l) (hn : n ≤ 17592186043904) (hA : RdS actE w aq m cq acts) :
    Calls Try.prog 9 #[.agg #[.slice ao n c, .int .i64 due], .slice aq m cq, .agg #[.bool x.back, .int .i64 x.seat, .int .i64 x.amount, .int .i64 x.now]] w fun e w' => e = .returned (.bool true) ∧ Below w.heap.size w w' := by
  have hb0 : Below w.heap.size w ((w.alloc (.cells #[.slice ao n c, .int .i64 due] 24 (0, 0))).alloc (.cells #[.bool x.back, .int .i64 x.seat, .int .i64 x.amount, .int .i64 x.now] 44 (0, 0))) := below_trans (below_alloc w _) (below_alloc _ _)
  have hz := heap_two_old w (.cells #[.slice ao n c, .int .i64 due] 24 (0, 0)) (.cells #[.bool x.back, .int .i64 x.seat, .int .i64 x.amount, .int .i64 x.now] 44 (0, 0))
  have hzx := heap_two_new w (.cells #[.slice ao n c, .int .i64 due] 24 (0, 0)) (.cells #[.bool x.back, .int .i64 x.seat, .int .i64 x.amount, .int .i64 x.now] 44 (0, 0))
  have hlt0 : w.heap.size + 1 < ((w.alloc (.cells #[.slice ao n c, .int .i64 due] 24 (0, 0))).alloc (.cells #[.bool x.back, .int .i64 x.seat, .int .i64 x.amount, .int .i64 x.now] 44 (0, 0))).heap.size := by simp
  have hlen := hR.len
  have hnn : n ≤ 140737488351232 := by omega
  have HL := hide hlen
  have HNN := hide hnn
  clear hlen hnn
  go_enter Try.func9, Try.ntmps9
  go_upto_region 1 with fail
  generalize (w.alloc (.cells #[.slice ao n c, .int .i64 due] 24 (0, 0))).alloc (.cells #[.bool x.back, .int .i64 x.seat, .int .i64 x.amount, .int .i64 x.now] 44 (0, 0)) = W0 at *
  have hcells : ∀ W, Below W0.heap.size W0 W → W.cell? ⟨w.heap.size, 0, none⟩ = some (.slice ao n c) ∧ W.cell? ⟨w.heap.size, 1, none⟩ = some (.int .i64 due) := fun W hb => by
    have h := (hb.block _ (by omega)).trans hz
    constructor
    · unfold World.cell?; rw [h]; rfl
    · unfold World.cell?; rw [h]; rfl
  have hxc : ∀ W, Below W0.heap.size W0 W → W.cell? ⟨w.heap.size + 1, 0, none⟩ = some (.bool x.back) ∧ W.cell? ⟨w.heap.size + 1, 1, none⟩ = some (.int .i64 x.seat) ∧ W.cell? ⟨w.heap.size + 1, 2, none⟩ = some (.int .i64 x.amount) ∧ W.cell? ⟨w.heap.size + 1, 3, none⟩ = some (.int .i64 x.now) := fun W hb => by
    have h := (hb.block _ hlt0).trans hzx
    refine ⟨?_, ?_, ?_, ?_⟩ <;> (unfold World.cell?; rw [h]; rfl)
  have HC := hide hcells
  have HXC := hide hxc
  obtain ⟨d0, d1⟩ := hcells _ (Below.refl _ _)
  clear hcells hz hxc hzx
  have hR0 := hR.below hb0
  have hA0 := hA.below hb0
  by_cases h40 : m ≤ 20
  · have t1 : (m : Int) ≤ 20 := by omega
    by_cases hE : newFErr l due = 0
    · have HE := hide hE
      clear hE
      go_wp2_with fail
      refine (fundnew_ok hR0 HNN.out HE.out).mono ?_
      rintro e w2 ⟨g, rfl, h, hk, hb2⟩
      obtain ⟨d2, d3⟩ := HC.out _ hb2
      have hle : W0.heap.size ≤ g := h.le
      obtain ⟨so, sc, hq⟩ := h
      go_wp2_with fail
      refine (newFR_ok (hR0.below hb2) HE.out).mono ?_
      rintro e w3 ⟨s2, k2, lo, lc, rfl, hst, hla, hb3⟩
      have hq := hq.below hb3
      have hb := below_trans hb2 hb3
      have bW := below_alloc w3 (.cells #[.slice s2 n k2, .slice lo n lc, .int .i64 due] 40 (0, 0))
      have hq := hq.below bW
      have hgW : W0.heap.size ≤ w3.heap.size := hb.size
      have hb := below_trans hb bW
      have hfl : (⟨l, due, List.replicate n false⟩ : FundX).stakes.length = n := HL.out
      obtain ⟨F, hF⟩ : ∃ F : FundX, F = ⟨l, due, List.replicate n false⟩ := ⟨_, rfl⟩
      have hrs : RefS (w3.alloc (.cells #[.slice s2 n k2, .slice lo n lc, .int .i64 due] 40 (0, 0))) w3.heap.size n s2 k2 lo lc F := by
        rw [hF]
        exact RefS.new (f := ⟨l, due, List.replicate n false⟩) (hst.mono (Nat.zero_le _)) (hla.mono (Nat.zero_le _))
      rw [← hF] at hq hk hfl
      have HFL := hide hfl
      clear d0 d1 d2 d3 hF hfl hb2 hb3 bW hst hla
      go_wp2_with fail
      generalize w3.heap.size = gW at *
      go_loopw [11] (fun v11 wr => ∃ (i : Nat) (f : FundX) (lo : Option Addr) (lc : Nat), v11 = .int .i64 i ∧ i ≤ m ∧ FundQ wr W0.heap.size g so sc f ∧ f.Ok ∧ Hidden (f.stakes.length = n) ∧ RefS wr gW n s2 k2 lo lc f ∧ Below W0.heap.size W0 wr) (fun v11 _ => m - (intOf v11).toNat)
      case atStart => exact ⟨0, F, lo, lc, rfl, Nat.zero_le _, hq, hk, HFL, hrs, hb⟩
      case round =>
        clear hq hk hrs hb HFL
        obtain ⟨i, f, lo, lc, rfl, hi, hq, hk, HFL, hrs, hb⟩ := hrel
        by_cases hlt : i < m
        · obtain ⟨y, hx, _, _⟩ := hA0.next hlt
          obtain ⟨b, o, rfl, c0, c1, c2, c3⟩ := act_at (hA0.below hb) hx
          have HX := hide hx
          have ilI : (i : Int) < (m : Int) := by omega
          clear hx
          cases hbk : y.back
          · rw [hbk] at c0
            clear hbk
            go_wp2_with fail
            go_still_tail 16, (by kernel_rfl)
            change wpList _ _ _ _ _ wr.drew
            have hd : Below wr.heap.size wr wr.drew := (Below.refl _ _).drew
            have hq := hq.below hd
            have hrs := hrs.below hd
            have hb := below_trans hb hd
            clear c0 c1 c2 c3 hd
            generalize wr.drew = W1 at *
            go_wp2_with fail
            refine (lay_anyQ (seat := y.seat) (amount := y.amount) (now := y.now) hq hk).mono ?_
            rintro e w4 ⟨rfl, hq4, hg4⟩
            have hb4 := hb.grown hg4 hb.size (fun k hk => by cases hk; exact hle)
            have hrs4 := hrs.keep hg4 hq.hh (by decide) (by decide) (by decide)
            have hk4 := hk.lay y.seat y.amount y.now
            have hfs : (layF f y.seat y.amount y.now).1.stakes = f.stakes := layF_stakes ..
            have hfl4 : (layF f y.seat y.amount y.now).1.stakes.length = n := by rw [hfs]; exact HFL.out
            have HFL4 := hide hfl4
            have hcz : ∀ W, Below W0.heap.size W0 W → W.cell? ⟨b, o + i * 4 + 1, none⟩ = some (.int .i64 y.seat) ∧ W.cell? ⟨b, o + i * 4 + 2, none⟩ = some (.int .i64 y.amount) ∧ W.cell? ⟨b, o + i * 4 + 3, none⟩ = some (.int .i64 y.now) := fun W hW => by
              obtain ⟨b', o', he, k0, k1, k2, k3⟩ := act_at (hA0.below hW) HX.out
              cases he
              exact ⟨k1, k2, k3⟩
            have HCZ := hide hcz
            have hbd := (Below.refl w4.heap.size w4).drew
            have hbe := below_trans hb4 hbd
            have hrd := hrs4.below hbd
            clear hcz hfl4 hg4 hq hrs hb
            go_upto_region 16 with fail
            obtain ⟨y0, y1, y2, y3⟩ := box_cells hrd.hz
            clear y3
            obtain ⟨z1, z2, z3⟩ : w4.drew.cell? ⟨b, o + i * 4 + 1, none⟩ = some (.int .i64 y.seat) ∧ w4.drew.cell? ⟨b, o + i * 4 + 2, none⟩ = some (.int .i64 y.amount) ∧ w4.drew.cell? ⟨b, o + i * 4 + 3, none⟩ = some (.int .i64 y.now) := HCZ.out _ hbe
            go_region_with (first
              | (go_at_call 21; refine (layR_use (seat := y.seat) (amount := y.amount) (now := y.now) hrd.st.rd hrd.la hk).mono ?_; rintro e w5 ⟨lo3, lc3, rfl, hol, hb5'⟩; have hb5 := below_trans hbd hb5'; have hz5 := z_keep (grown_of_below hb5' none) hrd.hz (fun e => by cases e); obtain ⟨q0, q1, q2, q3⟩ := box_cells hz5; have r0 := q3 0; have r1 := q3 1; have r2 := q3 2; have hgr := box_grown w5 gW (.slice s2 n k2) (.slice lo3 n lc3) (.int .i64 (layF f y.seat y.amount y.now).1.due); have hbf := below_trans hb4 hb5; have hb7 := hbf.grown hgr hbf.size (fun k hk => by cases hk; exact hgW)))
            all_goals
              have hst5 := hrd.st.below hb5'
              rw [← hfs] at hst5
              have hrs6 := RefS.put hz5 hst5 hol
              have hq5 := hq4.below hb5
              have hq6 := hq5.keep hgr (fun e => by have := Option.some.inj e; subst this; have h1 := hq5.hh; rw [hz5] at h1; cases h1) (.inr (by have h2 := hq5.own.notRow hz5 (by decide); rw [HFL4.out] at h2 ⊢; exact h2))
              generalize (layF f y.seat y.amount y.now).1 = f4 at *
              go_wp2_with fail
              go_roundw
              case rel => exact ⟨i + 1, f4, lo3, lc3, by simp, by omega, hq6, hk4, HFL4, hrs6, hb7⟩
              case measure => simp [intOf]; omega
          · rw [hbk] at c0
            clear hbk
            go_wp2_with fail
            go_still_tail 11, (by kernel_rfl)
            change wpList _ _ _ _ _ wr.drew
            have hd : Below wr.heap.size wr wr.drew := (Below.refl _ _).drew
            have hq := hq.below hd
            have hrs := hrs.below hd
            have hb := below_trans hb hd
            clear c0 c1 c2 c3 hd
            generalize wr.drew = W1 at *
            go_wp2_with fail
            refine (back_anyQ (seat := y.seat) (now := y.now) hq hk).mono ?_
            rintro e w4 ⟨rfl, hq4, hg4⟩
            have hb4 := hb.grown hg4 hb.size (fun k hk => by cases hk; exact hle)
            have hrs4 := hrs.keep hg4 hq.hh (by decide) (by decide) (by decide)
            have hk4 := hk.back y.seat
            have hfs : (backF f y.seat).1.stakes = f.stakes := backF_stakes ..
            have hfl4 : (backF f y.seat).1.stakes.length = n := by rw [hfs]; exact HFL.out
            have HFL4 := hide hfl4
            have hcz : ∀ W, Below W0.heap.size W0 W → W.cell? ⟨b, o + i * 4 + 1, none⟩ = some (.int .i64 y.seat) := fun W hW => by
              obtain ⟨b', o', he, k0, k1, k2, k3⟩ := act_at (hA0.below hW) HX.out
              cases he
              exact k1
            have HCZ := hide hcz
            have hbd := (Below.refl w4.heap.size w4).drew
            have hbe := below_trans hb4 hbd
            have hrd := hrs4.below hbd
            clear hcz hfl4 hg4 hq hrs hb
            go_upto_region 14 with fail
            obtain ⟨y0, y1, y2, y3⟩ := box_cells hrd.hz
            clear y3
            obtain ⟨z1, z2, z3⟩ : w4.drew.cell? ⟨b, o + i * 4 + 1, none⟩ = some (.int .i64 y.seat) ∧ True ∧ True := ⟨HCZ.out _ hbe, trivial, trivial⟩
            go_region_with (first
              | (go_at_call 20; refine (backR_use (seat := y.seat) hrd.st.rd hrd.la hk).mono ?_; rintro e w5 ⟨lo3, lc3, rfl, hol, hb5'⟩; have hb5 := below_trans hbd hb5'; have hz5 := z_keep (grown_of_below hb5' none) hrd.hz (fun e => by cases e); obtain ⟨q0, q1, q2, q3⟩ := box_cells hz5; have r0 := q3 0; have r1 := q3 1; have r2 := q3 2; have hgr := box_grown w5 gW (.slice s2 n k2) (.slice lo3 n lc3) (.int .i64 (backF f y.seat).1.due); have hbf := below_trans hb4 hb5; have hb7 := hbf.grown hgr hbf.size (fun k hk => by cases hk; exact hgW)))
            all_goals
              have hst5 := hrd.st.below hb5'
              rw [← hfs] at hst5
              have hrs6 := RefS.put hz5 hst5 hol
              have hq5 := hq4.below hb5
              have hq6 := hq5.keep hgr (fun e => by have := Option.some.inj e; subst this; have h1 := hq5.hh; rw [hz5] at h1; cases h1) (.inr (by have h2 := hq5.own.notRow hz5 (by decide); rw [HFL4.out] at h2 ⊢; exact h2))
              generalize (backF f y.seat).1 = f4 at *
              go_wp2_with fail
              go_roundw
              case rel => exact ⟨i + 1, f4, lo3, lc3, by simp, by omega, hq6, hk4, HFL4, hrs6, hb7⟩
              case measure => simp [intOf]; omega
        · go_wp2_with fail
          have hglt := hq.lt
          refine (clone_any ⟨so, sc, hq⟩ hk).mono ?_
          rintro e w4 ⟨g2, rfl, ho, hb4⟩
          have hgg : g < g2 := Nat.lt_of_lt_of_le hglt ho.le
          have hleo : W0.heap.size ≤ g2 := by omega
          have hq := hq.below hb4
          have hrs := hrs.below hb4
          have hb := below_trans hb hb4
          clear hb4
          go_wp2_with fail
          refine (same_laid ho ⟨so, sc, hq⟩ hk hk rfl rfl).mono ?_
          rintro e w5 ⟨rfl, hb5⟩
          rw [laidB_self]
          have ho := ho.below hb5
          have hq := hq.below hb5
          have hrs := hrs.below hb5
          have hb := below_trans hb hb5
          clear hb5
          go_wp2_with fail
          refine (same_laid ⟨so, sc, hq⟩ ho hk hk rfl rfl).mono ?_
          rintro e w6 ⟨rfl, hb6'⟩
          rw [laidB_self]
          have ho := ho.below hb6'
          have hq := hq.below hb6'
          have hrs := hrs.below hb6'
          have hb6 := below_trans hb hb6'
          obtain ⟨so2, sc2, hqo⟩ := ho
          obtain ⟨x0, x1, x2, x3⟩ := HXC.out _ hb6
          clear hb hb6'
          cases hbk : x.back
          · rw [hbk] at x0
            clear hbk
            go_wp2_with fail
            refine (lay_anyQ (seat := x.seat) (amount := x.amount) (now := x.now) hqo hk).mono ?_
            rintro e w7 ⟨rfl, hqo7, hg7⟩
            have hb7 := hb6.grown hg7 hb6.size (fun k hk => by cases hk; exact hleo)
            have hrs7 := hrs.keep hg7 hqo.hh (by decide) (by decide) (by decide)
            have hq7 := hq.keep hg7 (fun e => by have := Option.some.inj e; omega) (.inr (hq.own.notRow hqo.hh (by decide)))
            have hko := hk.lay x.seat x.amount x.now
            have hsm := lay_laid hk x.seat x.amount x.now
            have hos : (layF f x.seat x.amount x.now).1.stakes = f.stakes := layF_stakes ..
            have hod : (layF f x.seat x.amount x.now).1.due = f.due := layF_due ..
            have hsame := fun W (hW : Below w7.heap.size w7 W) => same_laid (⟨_, _, hqo7.below hW⟩ : FundP W _ g2 (layF f x.seat x.amount x.now).1) (⟨so, sc, hq7.below hW⟩ : FundP W W0.heap.size g f) hko hk hos.symm hod.symm
            rw [hsm] at hsame
            have HSAME := hide hsame
            generalize (layF f x.seat x.amount x.now).2 = er at *
            obtain ⟨y0, y1, y2⟩ := hrs7.cells
            have t9 : ((er != 0) == (er != 0)) = true := by simp
            clear hsm hos hod hsame hqo7 hqo hg7
            go_wp2_with fail
            refine (HSAME.out _ (Below.refl _ _)).mono ?_
            rintro e w8 ⟨rfl, hb8⟩
            obtain ⟨y0, y1, y2⟩ := (hrs7.below hb8).cells
            go_wp2_with fail
            refine (alikeR_any (now := 0) ⟨so, sc, hq7.below hb8⟩ (hrs7.below hb8).ref hk).mono ?_
            rintro e w9 ⟨rfl, hb9⟩
            go_wp2_with fail
            refine (told_any _).mono ?_
            rintro e w10 ⟨rfl, hb10⟩
            go_wp2_with fail
            go_ret
            exact ⟨rfl, below_trans hb0 (below_trans (below_trans (below_trans hb7 hb8) hb9) hb10)⟩
          · rw [hbk] at x0
            clear hbk
            go_wp2_with fail
            refine (back_anyQ (seat := x.seat) (now := x.now) hqo hk).mono ?_
            rintro e w7 ⟨rfl, hqo7, hg7⟩
            have hb7 := hb6.grown hg7 hb6.size (fun k hk => by cases hk; exact hleo)
            have hrs7 := hrs.keep hg7 hqo.hh (by decide) (by decide) (by decide)
            have hq7 := hq.keep hg7 (fun e => by have := Option.some.inj e; omega) (.inr (hq.own.notRow hqo.hh (by decide)))
            have hko := hk.back x.seat
            have hsm := back_laid hk x.seat
            have hos : (backF f x.seat).1.stakes = f.stakes := backF_stakes ..
            have hod : (backF f x.seat).1.due = f.due := backF_due ..
            have hsame := fun W (hW : Below w7.heap.size w7 W) => same_laid (⟨_, _, hqo7.below hW⟩ : FundP W _ g2 (backF f x.seat).1) (⟨so, sc, hq7.below hW⟩ : FundP W W0.heap.size g f) hko hk hos.symm hod.symm
            rw [hsm] at hsame
            have HSAME := hide hsame
            generalize (backF f x.seat).2.2 = er at *
            obtain ⟨y0, y1, y2⟩ := hrs7.cells
            have t9 : ((er != 0) == (er != 0)) = true := by simp
            clear hsm hos hod hsame hqo7 hqo hg7
            go_wp2_with fail
            refine (HSAME.out _ (Below.refl _ _)).mono ?_
            rintro e w8 ⟨rfl, hb8⟩
            obtain ⟨y0, y1, y2⟩ := (hrs7.below hb8).cells
            go_wp2_with fail
            refine (alikeR_any (now := 0) ⟨so, sc, hq7.below hb8⟩ (hrs7.below hb8).ref hk).mono ?_
            rintro e w9 ⟨rfl, hb9⟩
            go_wp2_with fail
            refine (told_any _).mono ?_
            rintro e w10 ⟨rfl, hb10⟩
            go_wp2_with fail
            go_ret
            exact ⟨rfl, below_trans hb0 (below_trans (below_trans (below_trans hb7 hb8) hb9) hb10)⟩
    · have hne : (newFErr l due != 0) = true := by simpa using hE
      have hne2 : (newFErr l due == newFErr l due) = true := by simp
      have HE := hide hE
      clear hE
      go_wp2_with fail
      refine (fundnew_no hR0 HNN.out HE.out).mono ?_
      rintro e w2 ⟨rfl, rfl⟩
      go_wp2_with fail
      refine (newFR_no hR0 HNN.out HE.out).mono ?_
      rintro e w3 ⟨rfl, hb3⟩
      have hb4 := below_trans hb3 (below_alloc w3 (.cells #[.slice none 0 0, .slice none 0 0, .int .i64 0] 40 (0, 0)))
      generalize newFErr l due = er at *
      go_wp2_with fail
      refine (told_any _).mono ?_
      rintro e w4 ⟨rfl, hb5⟩
      go_wp2_with fail
      go_ret
      exact ⟨rfl, below_trans hb0 (below_trans hb4 hb5)⟩
  · have t1 : (20 : Int) < m := by omega
    go_wp2_with fail
    refine (told_any _).mono ?_
    rintro e w4 ⟨rfl, hb4⟩
    go_wp2_with fail
    go_ret
    exact ⟨rfl, below_trans hb0 hb4⟩

theorem fclone_walk : LawWalk 9 Try.f9.params.toList := by
  intro W args h
  obtain ⟨v0, v1, v2, rfl, h0, h1, h2⟩ := argsOk3 h
  obtain ⟨ao, n, c, l, due, rfl, hR, _, hn, _⟩ := one_start h0
  obtain ⟨aq, m, cq, acts, rfl, hA, _⟩ := one_acts h1
  obtain ⟨x, rfl⟩ := one_act h2
  exact fclone_any hR hn hA

set_option maxRecDepth 100000 in
theorem fundClone_lifted (os : Os) (started : os.Started) (H : Type) (enc : TypeId × Value → H) :
    ReturnsInHanded {} Try.checked os 9 .any (Rows.fundCloneSpec.pre6 enc Try.prog Try.f9 Rows.fundCloneRow.domain false) (Rows.fundCloneSpec.post enc Try.prog Try.f9 false true false false) :=
  law_lifted Try.func9 rfl rfl (by decide +kernel) (fun H ds h => by match ds, h with | [_, _, _], _ => rfl) (by kernel_rfl) os started H enc
    (ChangeSpec.witness6 (enc := enc) (C := Try.checked) false ⟨#[], #[.agg #[.slice none 0 0, .int .i64 0], .slice none 0 0, .agg #[.bool false, .int .i64 0, .int .i64 0, .int .i64 0]], []⟩ 8 (by kernel_rfl) (by kernel_rfl) (by kernel_rfl) (by kernel_rfl)) fclone_walk

theorem fundClone_proved : Rows.FundCloneSaid :=
  OpenClaim.holds_of_wide 9 Try.f9 rfl rfl rfl rfl rfl rfl rfl ⟨rfl, rfl, rfl, rfl, rfl⟩ rfl rfl rfl rfl rfl (by kernel_rfl) Try.func9 (by kernel_rfl)
    (of_decide_eq_true (by kernel_rfl)) (by unfold Func.isWrapper; first | (rw [if_pos (by decide +kernel)]; kernel_rfl) | (rw [if_neg (by decide +kernel)]; exact ⟨rfl, rfl⟩))
    (fun os started H enc _ => fundClone_lifted os started H enc)
#print axioms fundClone_proved
end Go.Proofs.Ytoeoneiopcagfaa
