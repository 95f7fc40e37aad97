/- CoinKeeps: nothing is made and nothing lost: what is left, and what all have, is the amount, always; behind the rest all have it. -/
import Derived.Test.YtmdmgmddblokoaaPotC
import Derived.Test.YtmdmgmddblokoaaCoinF
namespace Go.Proofs.Ytmdmgmddblokoaa
open Go.RowKit

theorem newErr_nat {amount seats : Int} (h : newErr amount seats = 0) : ∃ n : Nat, seats = n := by
  unfold newErr at h
  split at h
  · split at h
    · cases h
    · exact ⟨seats.toNat, by omega⟩
  · cases h

set_option maxRecDepth 100000 in
set_option maxHeartbeats 4000000 in
theorem keeps_any {amount seats last : Int} {ao : Option Addr} {n c : Nat} {l : List AskX} {w : World} (hR : RdS askE w ao n c l) (hn : n ≤ 140737488351232) :
    Calls Try.prog 8 #[.int .i64 amount, .int .i64 seats, .agg #[.slice ao n c, .int .i64 last]] w fun e w' => e = .returned (.bool true) ∧ Below w.heap.size w w' := by
  by_cases h40 : n ≤ 40
  · have t1 : (n : Int) ≤ 40 := by omega
    by_cases hE : newErr amount seats = 0
    · obtain ⟨m, rfl⟩ := newErr_nat hE
      have HE := hide hE
      clear hE
      go_enter Try.func8, Try.ntmps8
      go_wp2_with fail
      go_quiet (fail)
      have hb0 := below_drewN (below_alloc w (.cells #[.slice ao n c, .int .i64 last] 56 (0, 0))) nq
      generalize (w.alloc (.cells #[.slice ao n c, .int .i64 last] 56 (0, 0))).drewN nq = W0 at *
      go_wp2_with fail
      refine (newpot_ok HE.out).mono ?_
      rintro e w1 ⟨g, rfl, h, hk, hb1⟩
      have hb := below_trans hb0 hb1
      have hle : w.heap.size ≤ g := Nat.le_trans hb0.size h.le
      go_wp2_with fail
      go_loopw [11] (fun v11 wr => ∃ (i : Nat) (p : PotX), v11 = .int .i64 i ∧ i ≤ n ∧ PotP wr W0.heap.size g p ∧ p.Ok amount m ∧ Below w.heap.size w wr) (fun v11 _ => n - (intOf v11).toNat)
      case atStart => exact ⟨0, _, rfl, Nat.zero_le _, h, hk, hb⟩
      case round =>
        clear h hk hb hb0 hb1
        obtain ⟨i, p, rfl, hin, h, hk, hb⟩ := hrel
        by_cases hlt : i < n
        · obtain ⟨x, hx, _, _⟩ := hR.next hlt
          obtain ⟨b, o, rfl, c1, c2⟩ := ask_at (hR.below hb) hx
          clear hx
          go_wp2_with fail
          go_still_tail 11, (by kernel_rfl)
          change wpList _ _ _ _ _ wr.drew
          have hd : Below wr.heap.size wr wr.drew := (Below.refl _ _).drew
          have h := h.below hd
          have hb := below_trans hb hd
          clear c1 c2 hd
          generalize wr.drew = W1 at *
          go_wp2_with fail
          refine (pay_any (seat := x.seat) (ask := x.amount) h hk).mono ?_
          rintro e w2 ⟨rfl, h2, hg2⟩
          have hk2 := hk.pay x.seat x.amount
          obtain ⟨b1, b2⟩ := hk.paid x.amount
          have hb2 := hb.grown hg2 hb.size (fun k hk => by cases hk; exact hle)
          generalize payF p x.seat x.amount = q at *
          generalize paidF p x.amount = r at *
          clear h hk hb hg2 b2
          go_wp2_with fail
          refine (pays_any h2).mono ?_
          rintro e w3 ⟨a3, c3, rfl, ho3, hb3⟩
          have h3 := h2.below hb3
          have hb4 := below_trans hb2 hb3
          have hql : q.has.length ≤ 140737488351232 := by rw [hk2.len]; have := hk2.most; omega
          go_wp2_with fail
          refine (sumC_any ho3.rd hql).mono ?_
          rintro e w4 ⟨rfl, rfl⟩
          obtain ⟨u1, u2, u3, u4, u5⟩ := hk2.sums
          rw [u1]
          have u6 := hk2.pos
          have u7 : (q.has.sum + q.left != amount) = false := by rw [u5]; simp
          generalize q.has.sum = sm at *
          have U5 := hide u5
          clear u1 u5
          go_wp2_with fail
          refine (left_any h3).mono ?_
          rintro e w5 ⟨rfl, rfl⟩
          go_wp2_with fail
          refine (left_any h3).mono ?_
          rintro e w5 ⟨rfl, rfl⟩
          go_wp2_with fail
          go_roundw
          case rel => exact ⟨i + 1, q, by simp, by omega, h3, hk2, hb4⟩
          case measure => simp [intOf]; omega
        · go_wp2_with fail
          refine (rest_any (seat := last) h hk).mono ?_
          rintro e w2 ⟨a2, c2, rfl, h2, hg2, ho2⟩
          have hk2 := hk.pay last p.left
          have hl0 := hk.rest last
          have hb2 := hb.grown hg2 hb.size (fun k hk => by cases hk; exact hle)
          generalize payF p last p.left = q at *
          have HK := hide hk2.len
          have hq8 := hk2.most
          have hql : q.has.length ≤ 140737488351232 := by rw [HK.out]; omega
          obtain ⟨u1, u2, u3, u4, u5⟩ := hk2.sums
          have p0 := paid_none hl0 5
          have u7 : q.has.sum = amount := by omega
          have HU1 := hide u1
          have HU7 := hide u7
          have HL0 := hide hl0
          have HP0 := hide p0
          clear h hk hb hg2 u1 u5 u7 hl0 p0
          go_wp2_with fail
          refine (sumC_any ho2.rd hql).mono ?_
          rintro e w3 ⟨rfl, rfl⟩
          rw [HU1.out, HU7.out, HK.out]
          go_wp2_with fail
          refine (left_any h2).mono ?_
          rintro e w3 ⟨rfl, rfl⟩
          rw [HL0.out]
          go_wp2_with fail
          refine (pays_any h2).mono ?_
          rintro e w3 ⟨a3, c3, rfl, ho3, hb3⟩
          have h3 := h2.below hb3
          have hb4 := below_trans hb2 hb3
          rw [HK.out] at ho2 ho3 hql ⊢
          go_wp2_with fail
          refine (alike_any ho3.rd (ho2.below hb3).rd hql hql).mono ?_
          rintro e w4 ⟨rfl, hb5⟩
          rw [show decide (q.has = q.has) = true from by simp]
          have h4 := h3.below hb5
          have hb6 := below_trans hb4 hb5
          go_wp2_with fail
          refine (pay_any (seat := 0) (ask := 5) h4 hk2).mono ?_
          rintro e w5 ⟨rfl, h5, hg5⟩
          rw [HP0.out]
          have hb7 := hb6.grown hg5 hb6.size (fun k hk => by cases hk; exact hle)
          go_wp2_with fail
          refine (told_any _).mono ?_
          rintro e w6 ⟨rfl, hb8⟩
          go_wp2_with fail
          go_ret
          exact ⟨rfl, below_trans hb7 hb8⟩
    · have hne : (newErr amount seats != 0) = true := by simpa using hE
      have HE := hide hE
      clear hE
      go_enter Try.func8, Try.ntmps8
      go_wp2_with fail
      go_quiet (fail)
      have hb0 := below_drewN (below_alloc w (.cells #[.slice ao n c, .int .i64 last] 56 (0, 0))) nq
      generalize (w.alloc (.cells #[.slice ao n c, .int .i64 last] 56 (0, 0))).drewN nq = W0 at *
      go_wp2_with fail
      refine (newpot_no HE.out).mono ?_
      rintro e w1 ⟨rfl, rfl⟩
      go_wp2_with fail
      refine (told_any _).mono ?_
      rintro e w4 ⟨rfl, hb4⟩
      go_wp2_with fail
      go_ret
      exact ⟨rfl, below_trans hb0 hb4⟩
  · have t1 : (40 : Int) < n := by omega
    go_enter Try.func8, Try.ntmps8
    go_wp2_with fail
    go_quiet (fail)
    have hb0 := below_drewN (below_alloc w (.cells #[.slice ao n c, .int .i64 last] 56 (0, 0))) nq
    generalize (w.alloc (.cells #[.slice ao n c, .int .i64 last] 56 (0, 0))).drewN nq = W0 at *
    go_wp2_with fail
    refine (told_any _).mono ?_
    rintro e w4 ⟨rfl, hb4⟩
    go_wp2_with fail
    go_ret
    exact ⟨rfl, below_trans hb0 hb4⟩

theorem keeps_walk : LawWalk 8 Try.f8.params.toList := by
  intro W args h
  obtain ⟨v0, v1, v2, rfl, h0, h1, h2⟩ := argsOk3 h
  obtain ⟨a, rfl, _, _⟩ := one_i64 Try.underlying3 h0
  obtain ⟨b, rfl, _, _⟩ := one_i64 Try.underlying3 h1
  obtain ⟨ao, n, c, l, last, rfl, hR, _, hn, _⟩ := one_asksr h2
  exact keeps_any hR hn

set_option maxRecDepth 100000 in
theorem coinKeeps_lifted (os : Os) (started : os.Started) (H : Type) (enc : TypeId × Value → H) :
    ReturnsInHanded {} Try.checked os 8 .any (Rows.coinKeepsSpec.pre6 enc Try.prog Try.f8 Rows.coinKeepsRow.domain false) (Rows.coinKeepsSpec.post enc Try.prog Try.f8 false true false false) :=
  law_lifted Try.func8 rfl rfl (by decide +kernel) (fun H ds h => by match ds, h with | [_, _, _], _ => rfl) (by kernel_rfl) os started H enc
    (ChangeSpec.witness6 (enc := enc) (C := Try.checked) false ⟨#[], #[.int .i64 0, .int .i64 0, .agg #[.slice none 0 0, .int .i64 0]], []⟩ 8 (by kernel_rfl) (by kernel_rfl) (by kernel_rfl) (by kernel_rfl)) keeps_walk

theorem coinKeeps_proved : Rows.CoinKeepsSaid :=
  OpenClaim.holds_of_wide 8 Try.f8 rfl rfl rfl rfl rfl rfl rfl ⟨rfl, rfl, rfl, rfl, rfl⟩ rfl rfl rfl rfl rfl (by kernel_rfl) Try.func8 (by kernel_rfl)
    (of_decide_eq_true (by kernel_rfl)) (by unfold Func.isWrapper; first | (rw [if_pos (by decide +kernel)]; kernel_rfl) | (rw [if_neg (by decide +kernel)]; exact ⟨rfl, rfl⟩))
    (fun os started H enc _ => coinKeeps_lifted os started H enc)
#print axioms coinKeeps_proved
end Go.Proofs.Ytmdmgmddblokoaa
