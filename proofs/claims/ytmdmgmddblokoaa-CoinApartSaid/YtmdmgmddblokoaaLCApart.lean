/- CoinApart: a pot shares nothing with its clone, nor with its answers. -/
import Derived.Test.YtmdmgmddblokoaaPotC
import Derived.Test.YtmdmgmddblokoaaCoinF
namespace Go.Proofs.Ytmdmgmddblokoaa
open Go.RowKit

theorem newErr_nat {amount seats : Int} (h : newErr amount seats = 0) : ∃ n : Nat, seats = n := by
  unfold newErr at h
  split at h
  · split at h
    · cases h
    · exact ⟨seats.toNat, by omega⟩
  · cases h

/-- A block that was there before an owned slice is not that slice's. -/
theorem OwnS.apart {α : Type} {E : El α} {w : World} {base g n c : Nat} {ao : Option Addr} {l : List α} (h : OwnS E w base ao n c l) (hg : g < base) : (Value.slice ao n c).ownBlock = none ∨ (Value.slice ao n c).ownBlock ≠ some g := by
  cases ao with
  | none => exact .inl rfl
  | some ad =>
    obtain ⟨g2, rfl, hb, _⟩ := h.addr ad rfl
    refine .inr ?_
    simp [Value.ownBlock]
    omega
/-- .. and one that came later neither. -/
theorem OwnS.later {α : Type} {E : El α} {w : World} {base g n c : Nat} {ao : Option Addr} {l : List α} (h : OwnS E w base ao n c l) (hg : w.heap.size ≤ g) : (Value.slice ao n c).ownBlock = none ∨ (Value.slice ao n c).ownBlock ≠ some g := by
  cases ao with
  | none => exact .inl rfl
  | some ad =>
    obtain ⟨g2, rfl, _, hb⟩ := h.addr ad rfl
    refine .inr ?_
    simp [Value.ownBlock]
    omega

/-- How a clone stands beside the pot that it was made of. -/
def MvR (mv : Bool) (q p : PotX) : Prop := q.left ≤ p.left ∧ (mv = true → q.left < p.left) ∧ (mv = false → q = p)

theorem pay_none {q : PotX} {amount : Int} {n : Nat} (hk : q.Ok amount n) {seat ask : Int} (h : paidF q ask = 0) : payF q seat ask = q := by
  have hs := seatF_lt (n := q.has.length) (by rw [hk.len]; exact hk.one) seat
  obtain ⟨l, hs'⟩ := q
  unfold payF
  rw [h]
  simp only [Int.sub_zero, Int.add_zero, PotX.mk.injEq, true_and]
  refine List.ext_getElem (by simp) fun i h1 h2 => ?_
  rw [List.getElem_set]
  split
  · next e => subst e; rw [List.getD_eq_getElem?_getD, List.getElem?_eq_getElem h2]; rfl
  · rfl

theorem MvR.step {mv : Bool} {q p : PotX} {amount : Int} {n : Nat} (h : MvR mv q p) (hk : q.Ok amount n) (seat ask : Int) : MvR (decide (0 < paidF q ask) || mv) (payF q seat ask) p := by
  obtain ⟨h1, h2, h3⟩ := h
  obtain ⟨b1, b2⟩ := hk.paid ask
  have hl : (payF q seat ask).left = q.left - paidF q ask := rfl
  by_cases hp : 0 < paidF q ask
  · rw [decide_eq_true hp]
    refine ⟨by omega, fun _ => by omega, by simp⟩
  · have h0 : paidF q ask = 0 := by omega
    rw [decide_eq_false hp, Bool.false_or, pay_none hk h0]
    exact ⟨h1, h2, h3⟩

theorem MvR.same {mv : Bool} {q p : PotX} (h : MvR mv q p) : decide (potI q = potI p) = !mv := by
  obtain ⟨h1, h2, h3⟩ := h
  cases mv
  · rw [h3 rfl]; simp
  · have := h2 rfl
    rw [decide_eq_false]
    · rfl
    · intro e
      have : q.left = p.left := by
        have h := congrArg List.head? e
        simpa [potI] using h
      omega

set_option maxRecDepth 100000 in
set_option maxHeartbeats 4000000 in
theorem capart_any {amount seats : Int} {ao ao2 : Option Addr} {n c n2 c2 : Nat} {l l2 : List AskX} {w : World} (hR : RdS askE w ao n c l) (hn : n ≤ 140737488351232) (hR2 : RdS askE w ao2 n2 c2 l2) (hn2 : n2 ≤ 140737488351232) :
    Calls Try.prog 5 #[.int .i64 amount, .int .i64 seats, .agg #[.slice ao n c, .slice ao2 n2 c2]] w fun e w' => e = .returned (.bool true) ∧ Below w.heap.size w w' := by
  by_cases h20 : n ≤ 20
  · have t1 : (n : Int) ≤ 20 := by omega
    by_cases h21 : n2 ≤ 20
    · have t2 : (n2 : Int) ≤ 20 := by omega
      by_cases hE : newErr amount seats = 0
      · obtain ⟨m, rfl⟩ := newErr_nat hE
        have HE := hide hE
        clear hE
        go_enter Try.func5, Try.ntmps5
        go_wp2_with fail
        go_quiet (fail)
        have hb0 := below_drewN (below_alloc w (.cells #[.slice ao n c, .slice ao2 n2 c2] 47 (0, 0))) nq
        generalize (w.alloc (.cells #[.slice ao n c, .slice ao2 n2 c2] 47 (0, 0))).drewN nq = W0 at *
        go_wp2_with fail
        refine (newpot_ok HE.out).mono ?_
        rintro e w1 ⟨g, rfl, h, hk, hb1⟩
        have hb := below_trans hb0 hb1
        have hle : w.heap.size ≤ g := Nat.le_trans hb0.size h.le
        go_wp2_with fail
        go_loopw [11] (fun v11 wr => ∃ (i : Nat) (p : PotX), v11 = .int .i64 i ∧ i ≤ n ∧ PotP wr W0.heap.size g p ∧ p.Ok amount m ∧ Below w.heap.size w wr) (fun v11 _ => n - (intOf v11).toNat)
        case atStart => exact ⟨0, _, rfl, Nat.zero_le _, h, hk, hb⟩
        case round =>
          clear h hk hb hb0 hb1
          obtain ⟨i, p, rfl, hin, h, hk, hb⟩ := hrel
          by_cases hlt : i < n
          · obtain ⟨x, hx, _, _⟩ := hR.next hlt
            obtain ⟨b, o, rfl, c1, c2⟩ := ask_at (hR.below hb) hx
            clear hx
            go_wp2_with fail
            go_still_tail 11, (by kernel_rfl)
            change wpList _ _ _ _ _ wr.drew
            have hd : Below wr.heap.size wr wr.drew := (Below.refl _ _).drew
            have h := h.below hd
            have hb := below_trans hb hd
            clear c1 c2 hd
            generalize wr.drew = W1 at *
            go_wp2_with fail
            refine (pay_any (seat := x.seat) (ask := x.amount) h hk).mono ?_
            rintro e w2 ⟨rfl, h2, hg2⟩
            have hk2 := hk.pay x.seat x.amount
            have hb2 := hb.grown hg2 hb.size (fun k hk => by cases hk; exact hle)
            generalize payF p x.seat x.amount = q at *
            go_wp2_with fail
            go_roundw
            case rel => exact ⟨i + 1, q, by simp, by omega, h2, hk2, hb2⟩
            case measure => simp [intOf]; omega
          · go_wp2_with fail
            refine (clone_any h).mono ?_
            rintro e w2 ⟨g2, rfl, h2, hb2⟩
            have hgg : g < g2 := Nat.lt_of_lt_of_le h.lt h2.le
            have hle2 : w.heap.size ≤ g2 := by omega
            have h := h.below hb2
            have hb := below_trans hb hb2
            go_wp2_with fail
            refine (same_any h2 h).mono ?_
            rintro e w3 ⟨rfl, hb3⟩
            rw [show decide (potI p = potI p) = true from by simp]
            have h := h.below hb3
            have h2 := h2.below hb3
            have hb := below_trans hb hb3
            go_wp2_with fail
            refine (same_any h h2).mono ?_
            rintro e w4 ⟨rfl, hb4⟩
            rw [show decide (potI p = potI p) = true from by simp]
            have h := h.below hb4
            have h2 := h2.below hb4
            have hb := below_trans hb hb4
            have hg2B := h2.lt
            go_wp2_with fail
            refine (pays_any h).mono ?_
            rintro e w5 ⟨a3, c3, rfl, ho3, hb5⟩
            have h := h.below hb5
            have h2 := h2.below hb5
            have hb := below_trans hb hb5
            have hql : p.has.length ≤ 140737488351232 := by rw [hk.len]; have := hk.most; omega
            go_wp2_with fail
            refine (left_any h).mono ?_
            rintro e w6 ⟨rfl, rfl⟩
            have hM : MvR false p p := ⟨Int.le_refl _, by simp, fun _ => rfl⟩
            clear hb2 hb3 hb4 hb5
            go_wp2_with fail
            go_loopw [15, 16] (fun v15 v16 wr2 => ∃ (j : Nat) (q : PotX) (mv : Bool), v15 = .bool mv ∧ v16 = .int .i64 j ∧ j ≤ n2 ∧ PotP wr2 wr.heap.size g2 q ∧ q.Ok amount m ∧ PotP wr2 W0.heap.size g p ∧ MvR mv q p ∧ OwnS intE wr2 w4.heap.size a3 p.has.length c3 p.has ∧ Below w.heap.size w wr2) (fun _ v16 _ => n2 - (intOf v16).toNat)
            case atStart => exact ⟨0, p, false, rfl, rfl, Nat.zero_le _, h2, hk, h, hM, ho3, hb⟩
            case round =>
              clear h h2 hb hM ho3
              obtain ⟨j, q, mv, rfl, rfl, hj, h2, hkq, h, hM, ho3, hb⟩ := hrel
              by_cases hlt2 : j < n2
              · obtain ⟨x, hx, _, _⟩ := hR2.next hlt2
                obtain ⟨b, o, rfl, c1, c2⟩ := ask_at (hR2.below hb) hx
                clear hx
                go_wp2_with fail
                go_still_tail 11, (by kernel_rfl)
                change wpList _ _ _ _ _ wr.drew
                have hd : Below wr.heap.size wr wr.drew := (Below.refl _ _).drew
                have h := h.below hd
                have h2 := h2.below hd
                have ho3 := ho3.below hd
                have hb := below_trans hb hd
                clear c1 c2 hd
                generalize wr.drew = W2 at *
                go_wp2_with fail
                refine (pay_any (seat := x.seat) (ask := x.amount) h2 hkq).mono ?_
                rintro e w7 ⟨rfl, h7, hg7⟩
                have hk7 := hkq.pay x.seat x.amount
                have hM7 := hM.step hkq x.seat x.amount
                have hb7 := hb.grown hg7 hb.size (fun k hk => by cases hk; exact hle2)
                have h8 := h.keep hg7 (fun e => by cases e; exact Nat.lt_irrefl _ hgg)
                have ho8 := ho3.grown hg7 (ho3.apart hg2B)
                generalize payF q x.seat x.amount = q' at *
                have hp : 0 < paidF q x.amount ∨ paidF q x.amount ≤ 0 := by omega
                generalize paidF q x.amount = r at *
                clear h h2 hM hb ho3 hg7 hkq
                rcases hp with hp | hp
                · rw [decide_eq_true hp, Bool.true_or] at hM7
                  go_wp2_with fail
                  go_roundw
                  case rel => exact ⟨j + 1, q', true, rfl, by simp, by omega, h7, hk7, h8, hM7, ho8, hb7⟩
                  case measure => simp [intOf]; omega
                · rw [decide_eq_false (by omega), Bool.false_or] at hM7
                  go_wp2_with fail
                  go_roundw
                  case rel => exact ⟨j + 1, q', mv, by first | rfl | (rw [show decide (0 < r) = false from decide_eq_false (by omega), Bool.false_or]), by simp, by omega, h7, hk7, h8, hM7, ho8, hb7⟩
                  case measure => simp [intOf]; omega
              · go_wp2_with fail
                refine (pays_any h).mono ?_
                rintro e w7 ⟨a5, c5, rfl, ho5, hb7⟩
                have hgB : g < wr.heap.size := h.lt
                have hg2W : g2 < wr.heap.size := h2.lt
                have h := h.below hb7
                have h2 := h2.below hb7
                have ho3L := fun g5 hg5 => ho3.later (g := g5) hg5
                have ho3 := ho3.below hb7
                have hb := below_trans hb hb7
                have HM := hide hM
                have HO5 := hide ho5
                clear hM
                have hn8 : p.has.length ≤ 8 := h.most
                clear ho5 hb7
                go_wp2_with fail
                have ho5 := HO5.out
                go_loopw [18] (fun v18 wr2 => ∃ (k : Nat) (l5 : List Int), v18 = .int .i64 k ∧ k ≤ p.has.length ∧ OwnS intE wr2 wr.heap.size a5 p.has.length c5 l5 ∧ PotP wr2 W0.heap.size g p ∧ (∃ B2, PotP wr2 B2 g2 q) ∧ OwnS intE wr2 w4.heap.size a3 p.has.length c3 p.has ∧ Below w.heap.size w wr2) (fun v18 _ => p.has.length - (intOf v18).toNat)
                case atStart => exact ⟨0, p.has, rfl, Nat.zero_le _, ho5, h, ⟨_, h2⟩, ho3, hb⟩
                case round =>
                  clear h h2 ho3 hb ho5
                  obtain ⟨k, l5, rfl, hk5, ho5, h, ⟨B2, h2⟩, ho3, hb⟩ := hrel
                  by_cases hlt3 : k < p.has.length
                  · have hk6 : (k : Int) < (p.has.length : Int) := by omega
                    obtain ⟨ad, rfl⟩ : ∃ ad, a5 = some ad := by cases a5 with
                      | none => have := ho5.shape.2.2 rfl; omega
                      | some ad => exact ⟨ad, rfl⟩
                    obtain ⟨g5, rfl, hg5, _⟩ := ho5.addr ad rfl
                    obtain ⟨z, hz⟩ : ∃ z, l5[k]? = some z := ⟨_, List.getElem?_eq_getElem (by rw [ho5.len]; exact hlt3)⟩
                    have c2 := ho5.cell intE_ok hz (j := 0) rfl
                    have c2 : wr.cell? ⟨g5, k, none⟩ = some (.int .i64 z) := by simpa [intE] using c2
                    have f1 := ho5.free k
                    have ho6 := ho5.put1 k (-1) (u := .int .i64 (-1)) (fun _ => rfl) rfl
                    have hg6 : wr.grownBy (wr.setCell ⟨g5, k, none⟩ (.int .i64 (-1))) (some g5) := grown_setCell wr ⟨g5, k, none⟩ (.int .i64 (-1))
                    have n1 : g5 ≠ g := fun e => by subst e; omega
                    have n2 : g5 ≠ g2 := fun e => by subst e; omega
                    have n3 : w.heap.size ≤ g5 := by omega
                    have h6 := h.keep hg6 (fun e => n1 (Option.some.inj e))
                    have h62 := h2.keep hg6 (fun e => n2 (Option.some.inj e))
                    have ho7 := ho3.grown hg6 (ho3L g5 hg5)
                    have hb6 := hb.grown hg6 hb.size (fun k hk => by cases hk; exact n3)
                    have HZ := hide hz
                    clear hz h h2 ho3 hb ho5 hg6 n1 n2 n3
                    go_wp2_with fail
                    go_roundw
                    case rel => exact ⟨k + 1, l5.set k (-1), by simp, by omega, ho6, h6, ⟨B2, h62⟩, ho7, hb6⟩
                    case measure => simp [intOf]; omega
                  · go_wp2_with fail
                    refine (pays_any h).mono ?_
                    rintro e w8 ⟨a8, c8, rfl, ho8, hb8⟩
                    have h := h.below hb8
                    have h2 := h2.below hb8
                    have ho3 := ho3.below hb8
                    have hb := below_trans hb hb8
                    go_wp2_with fail
                    refine (alike_any ho8.rd ho3.rd hql hql).mono ?_
                    rintro e w9 ⟨rfl, hb9⟩
                    rw [show decide (p.has = p.has) = true from by simp]
                    have h := h.below hb9
                    have h2 := h2.below hb9
                    have hb := below_trans hb hb9
                    go_wp2_with fail
                    refine (left_any h).mono ?_
                    rintro e w10 ⟨rfl, rfl⟩
                    go_wp2_with fail
                    refine (same_any h2 h).mono ?_
                    rintro e w11 ⟨rfl, hb11⟩
                    rw [HM.out.same]
                    have hb := below_trans hb hb11
                    go_wp2_with fail
                    refine (told_any _).mono ?_
                    rintro e w12 ⟨rfl, hb12⟩
                    go_wp2_with fail
                    go_ret
                    exact ⟨rfl, below_trans hb hb12⟩
      · have hne : (newErr amount seats != 0) = true := by simpa using hE
        have HE := hide hE
        clear hE
        go_enter Try.func5, Try.ntmps5
        go_wp2_with fail
        go_quiet (fail)
        have hb0 := below_drewN (below_alloc w (.cells #[.slice ao n c, .slice ao2 n2 c2] 47 (0, 0))) nq
        generalize (w.alloc (.cells #[.slice ao n c, .slice ao2 n2 c2] 47 (0, 0))).drewN nq = W0 at *
        go_wp2_with fail
        refine (newpot_no HE.out).mono ?_
        rintro e w1 ⟨rfl, rfl⟩
        go_wp2_with fail
        refine (told_any _).mono ?_
        rintro e w4 ⟨rfl, hb4⟩
        go_wp2_with fail
        go_ret
        exact ⟨rfl, below_trans hb0 hb4⟩
    · have t2 : (20 : Int) < n2 := by omega
      go_enter Try.func5, Try.ntmps5
      go_wp2_with fail
      go_quiet (fail)
      have hb0 := below_drewN (below_alloc w (.cells #[.slice ao n c, .slice ao2 n2 c2] 47 (0, 0))) nq
      generalize (w.alloc (.cells #[.slice ao n c, .slice ao2 n2 c2] 47 (0, 0))).drewN nq = W0 at *
      go_wp2_with fail
      refine (told_any _).mono ?_
      rintro e w4 ⟨rfl, hb4⟩
      go_wp2_with fail
      go_ret
      exact ⟨rfl, below_trans hb0 hb4⟩
  · have t1 : (20 : Int) < n := by omega
    go_enter Try.func5, Try.ntmps5
    go_wp2_with fail
    go_quiet (fail)
    have hb0 := below_drewN (below_alloc w (.cells #[.slice ao n c, .slice ao2 n2 c2] 47 (0, 0))) nq
    generalize (w.alloc (.cells #[.slice ao n c, .slice ao2 n2 c2] 47 (0, 0))).drewN nq = W0 at *
    go_wp2_with fail
    refine (told_any _).mono ?_
    rintro e w4 ⟨rfl, hb4⟩
    go_wp2_with fail
    go_ret
    exact ⟨rfl, below_trans hb0 hb4⟩

theorem capart_walk : LawWalk 5 Try.f5.params.toList := by
  intro W args h
  obtain ⟨v0, v1, v2, rfl, h0, h1, h2⟩ := argsOk3 h
  obtain ⟨a, rfl, _, _⟩ := one_i64 Try.underlying3 h0
  obtain ⟨b, rfl, _, _⟩ := one_i64 Try.underlying3 h1
  obtain ⟨ao, n, c, l, ao2, n2, c2, l2, rfl, hR, _, hn, hR2, _, hn2⟩ := one_pair h2
  exact capart_any hR hn hR2 hn2

set_option maxRecDepth 100000 in
theorem coinApart_lifted (os : Os) (started : os.Started) (H : Type) (enc : TypeId × Value → H) :
    ReturnsInHanded {} Try.checked os 5 .any (Rows.coinApartSpec.pre6 enc Try.prog Try.f5 Rows.coinApartRow.domain false) (Rows.coinApartSpec.post enc Try.prog Try.f5 false true false false) :=
  law_lifted Try.func5 rfl rfl (by decide +kernel) (fun H ds h => by match ds, h with | [_, _, _], _ => rfl) (by kernel_rfl) os started H enc
    (ChangeSpec.witness6 (enc := enc) (C := Try.checked) false ⟨#[], #[.int .i64 0, .int .i64 0, .agg #[.slice none 0 0, .slice none 0 0]], []⟩ 8 (by kernel_rfl) (by kernel_rfl) (by kernel_rfl) (by kernel_rfl)) capart_walk

theorem coinApart_proved : Rows.CoinApartSaid :=
  OpenClaim.holds_of_wide 5 Try.f5 rfl rfl rfl rfl rfl rfl rfl ⟨rfl, rfl, rfl, rfl, rfl⟩ rfl rfl rfl rfl rfl (by kernel_rfl) Try.func5 (by kernel_rfl)
    (of_decide_eq_true (by kernel_rfl)) (by unfold Func.isWrapper; first | (rw [if_pos (by decide +kernel)]; kernel_rfl) | (rw [if_neg (by decide +kernel)]; exact ⟨rfl, rfl⟩))
    (fun os started H enc _ => coinApart_lifted os started H enc)
#print axioms coinApart_proved
end Go.Proofs.Ytmdmgmddblokoaa
