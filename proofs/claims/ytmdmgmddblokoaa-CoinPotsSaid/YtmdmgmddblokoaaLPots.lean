/- CoinPots: a pot of any amount and seats, whatever is paid of it: what each payment is, what is left, what each seat has. -/
import Derived.Test.YtmdmgmddblokoaaPotD
import Derived.Test.YtmdmgmddblokoaaCoinF
namespace Go.Proofs.Ytmdmgmddblokoaa
open Go.RowKit

theorem newErr_nat {amount seats : Int} (h : newErr amount seats = 0) : ∃ n : Nat, seats = n := by
  unfold newErr at h
  split at h
  · split at h
    · cases h
    · exact ⟨seats.toNat, by omega⟩
  · cases h

theorem OwnS.notAt {α : Type} {E : El α} {w : World} {base g n c : Nat} {ao : Option Addr} {l : List α} (h : OwnS E w base ao n c l) (hg : g < base) : (Value.slice ao n c).ownBlock ≠ some g := by
  cases ao with
  | none => simp [Value.ownBlock]
  | some ad =>
    obtain ⟨g2, rfl, h1, _⟩ := h.addr ad rfl
    simp [Value.ownBlock]
    omega

/-- A pot of the document, written over another one. -/
theorem pot_over {w : World} {b : Nat} {x0 : Int} {v0 : Value} (h : w.heap[b]? = some (.cells #[.int .i64 x0, v0] 36 (0, 0))) (x : Int) (v : Value) :
    ((w.setCell ⟨b, 0, none⟩ (.int .i64 x)).setCell ⟨b, 1, none⟩ v).heap[b]? = some (.cells #[.int .i64 x, v] 36 (0, 0)) := by
  have h1 : (w.setCell ⟨b, 0, none⟩ (.int .i64 x)).heap[b]? = some (.cells #[.int .i64 x, v0] 36 (0, 0)) := by rw [heap_set h]; rfl
  rw [heap_set h1]; rfl

set_option maxRecDepth 100000 in
set_option maxHeartbeats 8000000 in
theorem pots_any {amount seats : Int} {ao : Option Addr} {n c : Nat} {l : List AskX} {w : World} (hR : RdS askE w ao n c l) (hn : n ≤ 140737488351232) :
    Calls Try.prog 4 #[.int .i64 amount, .int .i64 seats, .slice ao n c] w fun e w' => e = .returned (.bool true) ∧ Below w.heap.size w w' := by
  by_cases h40 : n ≤ 40
  · have t1 : (n : Int) ≤ 40 := by omega
    by_cases hE : newErr amount seats = 0
    · obtain ⟨m, rfl⟩ := newErr_nat hE
      have HE := hide hE
      clear hE
      go_enter Try.func4, Try.ntmps4
      go_wp2_with fail
      refine (newpot_ok HE.out).mono ?_
      rintro e w1 ⟨g, rfl, h, hk, hb1⟩
      go_wp2_with fail
      refine (newR_ok HE.out).mono ?_
      rintro e w2 ⟨a2, c2, rfl, ho, hb2⟩
      have hle : w.heap.size ≤ g := h.le
      have hgl := h.lt
      have hga := h.le
      have hb12 := below_trans hb1 hb2
      have h := h.below hb2
      have bW := below_alloc w2 (.cells #[.int .i64 amount, .slice a2 m c2] 36 (0, 0))
      have zW := heap_alloc_new w2 (.cells #[.int .i64 amount, .slice a2 m c2] 36 (0, 0))
      have hgw : g < w2.heap.size := Nat.lt_of_lt_of_le hgl hb2.size
      have how := ho.later' (Nat.le_refl _)
      go_wp2_with fail
      go_loopw [11] (fun v11 wr => ∃ (i : Nat) (p : PotX) (a : Option Addr) (k : Nat), v11 = .int .i64 i ∧ i ≤ n ∧ PotP wr w.heap.size g p ∧ p.Ok amount m ∧ wr.heap[w2.heap.size]? = some (.cells #[.int .i64 p.left, .slice a m k] 36 (0, 0)) ∧
        OwnS intE wr w1.heap.size a m k p.has ∧ (Value.slice a m k).ownBlock ≠ some w2.heap.size ∧ Below w.heap.size w wr) (fun v11 _ => n - (intOf v11).toNat)
      case atStart => exact ⟨0, _, a2, c2, rfl, Nat.zero_le _, h.below bW, hk, zW, ho.below bW, how, below_trans hb12 bW⟩
      case round =>
        have hw12 : w.heap.size ≤ w1.heap.size := hb1.size
        have hw22 : w1.heap.size ≤ w2.heap.size := hb2.size
        clear h hk hb1 hb2 hb12 ho bW zW how
        obtain ⟨i, p, a, k, rfl, hin, h, hk, hz, ho, hne, hb⟩ := hrel
        by_cases hlt : i < n
        · obtain ⟨x, hx, _, _⟩ := hR.next hlt
          have HX := hide hx
          clear hx
          have hask : ∃ b o, ao = some ⟨b, o, none⟩ ∧ ∀ W, Below w.heap.size w W → W.cell? ⟨b, o + i * 2, none⟩ = some (.int .i64 x.seat) ∧ W.cell? ⟨b, o + i * 2 + 1, none⟩ = some (.int .i64 x.amount) := by
            obtain ⟨b, o, e, _, _⟩ := ask_at (hR.below hb) HX.out
            refine ⟨b, o, e, fun W hW => ?_⟩
            obtain ⟨b', o', e', c1, c2⟩ := ask_at (hR.below hW) HX.out
            rw [e] at e'
            cases e'
            exact ⟨c1, c2⟩
          obtain ⟨b, o, rfl, hask⟩ := hask
          have HA := hide hask
          clear hask
          have iI : (i : Int) < n := by omega
          have hzlt := lt_of_block hz
          obtain ⟨c1, c2⟩ := HA.out _ hb
          obtain ⟨y0, y1, _, _⟩ := pot_cells hz
          have bZ := below_alloc wr (.cells #[.int .i64 0, .slice none 0 0] 36 (0, 0))
          have zZ := heap_alloc_new wr (.cells #[.int .i64 0, .slice none 0 0] 36 (0, 0))
          obtain ⟨d1, d2⟩ := HA.out _ (below_trans hb bZ)
          obtain ⟨z0, z1, _, _⟩ := pot_cells (z_keep (grown_of_below bZ none) hz (fun e => by cases e))
          have hRW : ∀ W, Below wr.heap.size wr W → RdS intE W a m k p.has := fun W hW => (ho.below hW).rd
          have HRW := hide hRW
          have HZ := hide hz
          clear hz hRW
          go_upto_region 10 with fail
          go_cut [12, 13] from 50 to 64 (fun v12 v13 wq => ∃ (g3 : Nat) (a3 : Option Addr) (k3 : Nat), v12 = .pointer (some ⟨g3, 0, none⟩) ∧ v13 = .int .i64 (paidF p x.amount) ∧ wq.heap[g3]? = some (.cells #[.int .i64 (payF p x.seat x.amount).left, .slice a3 m k3] 36 (0, 0)) ∧
            OwnS intE wq wr.heap.size a3 m k3 (payF p x.seat x.amount).has ∧ wr.heap.size ≤ g3 ∧ Below wr.heap.size wr wq)
          case first =>
            have hcz : ∀ W, Below wr.heap.size wr W → W.cell? ⟨b, o + i * 2, none⟩ = some (.int .i64 x.seat) ∧ W.cell? ⟨b, o + i * 2 + 1, none⟩ = some (.int .i64 x.amount) ∧ W.cell? ⟨w2.heap.size, 0, none⟩ = some (.int .i64 p.left) ∧ W.cell? ⟨w2.heap.size, 1, none⟩ = some (.slice a m k) := fun W hW => by
              obtain ⟨k1, k2⟩ := HA.out W (below_trans hb hW)
              obtain ⟨k4, k5, _, _⟩ := pot_cells (z_keep (grown_of_below hW none) HZ.out (fun e => by cases e))
              exact ⟨k1, k2, k4, k5⟩
            have HCZ := hide hcz
            have hbd := (Below.refl wr.heap.size wr).drew
            have hbz := bZ.drew
            clear hcz c1 c2 d1 d2 y0 y1 z0 z1
            go_region_held3 (fun w' : World => w'.cell? ⟨b, o + i * 2, none⟩ = some (.int .i64 x.seat) ∧ w'.cell? ⟨b, o + i * 2 + 1, none⟩ = some (.int .i64 x.amount) ∧ w'.cell? ⟨w2.heap.size, 0, none⟩ = some (.int .i64 p.left) ∧ w'.cell? ⟨w2.heap.size, 1, none⟩ = some (.slice a m k)) (first | exact HCZ.out _ hbd | exact HCZ.out _ hbz | exact HCZ.out _ hb3 | exact HCZ.out _ (below_trans hb3 (below_alloc w3 _)) | exact HCZ.out _ (hb3.grown (grown_trans (grown_setCell w3 _ _) (grown_setCell _ _ _)) hb3.size (fun k hk => by cases hk; exact Nat.le_refl _))) (first
              | (go_at_call 16; refine (payR_any (seat := x.seat) (ask := x.amount) (HRW.out _ (Below.refl _ _).drew) hk).mono ?_; rintro e w3 ⟨a3, k3, rfl, ho3, hb3'⟩; have hb3 := below_trans (Below.refl wr.heap.size wr).drew hb3')
              | (go_at_call 16; refine (payR_any (seat := x.seat) (ask := x.amount) (HRW.out _ bZ.drew) hk).mono ?_; rintro e w3 ⟨a3, k3, rfl, ho3, hb3'⟩; have hb3 := below_trans bZ.drew hb3'; have hz3 := z_keep (grown_of_below hb3' none) zZ (fun e => by cases e); obtain ⟨q0, q1, q2, q3⟩ := pot_cells hz3; have hn3 := ho3.notRow hz3 (by decide); have ho4 := ho3.mono (base' := wr.heap.size) (by simp)))
            all_goals
              go_wp2_with fail
              go_meet
              case rel =>
                first
                  | exact ⟨_, a3, k3, rfl, rfl, heap_alloc_new w3 _, ho3.below (below_alloc w3 _), hb3.size, below_trans hb3 (below_alloc w3 _)⟩
                  | exact ⟨_, a3, k3, rfl, rfl, pot_put hz3 _ _, ho4.grown (grown_trans (grown_setCell w3 _ _) (grown_setCell _ _ _)) (.inr hn3), Nat.le_refl _, hb3.grown (grown_trans (grown_setCell w3 _ _) (grown_setCell _ _ _)) hb3.size (fun k hk => by cases hk; exact Nat.le_refl _)⟩
          case rest =>
            obtain ⟨g3, a3, k3, rfl, rfl, hz3, ho3, hg3, hb3⟩ := hcut
            have hk2 := hk.pay x.seat x.amount
            have HK := hide hk
            have hql := hk2.len
            generalize hq : payF p x.seat x.amount = q at *
            generalize hr : paidF p x.amount = r at *
            have HQ := hide hq
            have HR := hide hr
            have HQL := hide hql
            clear hq hr hql c1 c2 d1 d2 y0 y1 z0 z1 bZ zZ
            have hzc := z_keep (grown_of_below hb3 none) HZ.out (fun e => by cases e)
            obtain ⟨x0, x1, _, _⟩ := pot_cells hz3
            obtain ⟨y0, y1, y2, y3⟩ := pot_cells hzc
            have hgX := grown_trans (grown_setCell wc ⟨w2.heap.size, 0, none⟩ (.int .i64 q.left)) (grown_setCell _ ⟨w2.heap.size, 1, none⟩ (.slice a3 m k3))
            have hzX := pot_over hzc q.left (.slice a3 m k3)
            have hX := (h.below hb3).keep hgX (fun e => by have := Option.some.inj e; simp at this; omega)
            have hneX := ho3.notAt hzlt
            have hoX := ho3.grown hgX (.inr hneX)
            have hb13 := below_trans hb hb3
            have hbX := hb13.grown hgX hb13.size (fun k hk => by cases hk; show w.heap.size ≤ w2.heap.size; omega)
            have hwr1 : w1.heap.size ≤ wr.heap.size := by omega
            have hoX := hoX.mono hwr1
            clear h hk hb hb3 hb13 hgX hzc ho ho3 hz3 hne
            go_upto_region 12 with fail
            generalize (wc.setCell ⟨w2.heap.size, 0, none⟩ (.int .i64 q.left)).setCell ⟨w2.heap.size, 1, none⟩ (.slice a3 m k3) = W1 at *
            clear x0 x1 y0 y1 y2 y3
            have hcx : ∀ W, W1.grownBy W (some g) → W.cell? ⟨b, o + i * 2, none⟩ = some (.int .i64 x.seat) ∧ W.cell? ⟨b, o + i * 2 + 1, none⟩ = some (.int .i64 x.amount) ∧ W.cell? ⟨w2.heap.size, 0, none⟩ = some (.int .i64 q.left) ∧ W.cell? ⟨w2.heap.size, 1, none⟩ = some (.slice a3 m k3) := fun W hW => by
              obtain ⟨k1, k2⟩ := HA.out W (hbX.grown hW hbX.size (fun k hk => by cases hk; exact hle))
              obtain ⟨k4, k5, _, _⟩ := pot_cells (z_keep hW hzX (fun e => by have := Option.some.inj e; omega))
              exact ⟨k1, k2, k4, k5⟩
            have HCX := hide hcx
            have hd : W1.grownBy W1.drew (some g) := grown_of_below (Below.refl _ _).drew _
            have hD := hX.below (Below.refl _ _).drew
            have t9 : (r != r) = false := by simp
            have t10 : (q.left != q.left) = false := by simp
            have hm8 : q.has.length ≤ 140737488351232 := by have := hk2.most; have := HQL.out; omega
            have hm9 : m ≤ 140737488351232 := by rw [← HQL.out]; exact hm8
            have hoq : ∀ W, W1.grownBy W (some g) → RdS intE W a3 m k3 q.has := fun W hW => (hoX.grown hW (.inr (hoX.notAt (by omega)))).rd
            have HOQ := hide hoq
            clear hcx hoq
            go_region_held3 (fun w' : World => w'.cell? ⟨b, o + i * 2, none⟩ = some (.int .i64 x.seat) ∧ w'.cell? ⟨b, o + i * 2 + 1, none⟩ = some (.int .i64 x.amount) ∧ w'.cell? ⟨w2.heap.size, 0, none⟩ = some (.int .i64 q.left) ∧ w'.cell? ⟨w2.heap.size, 1, none⟩ = some (.slice a3 m k3)) (first | exact HCX.out _ hd | exact HCX.out _ hgA | exact HCX.out _ hgB | exact HCX.out _ hgC) (first
              | (go_at_call 17; refine (pay_any (seat := x.seat) (ask := x.amount) hD HK.out).mono ?_; rintro e w4 ⟨rfl, h4, hg4⟩; rw [HQ.out] at h4; rw [HR.out]; have hgA := grown_trans hd hg4)
              | (go_at_call 18; refine (left_any h4).mono ?_; rintro e w5 ⟨rfl, rfl⟩)
              | (go_at_call 19; refine (pays_any h4).mono ?_; rintro e w6 ⟨a6, k6, rfl, ho6, hb6⟩; have hgB := grown_trans hgA (grown_of_below hb6 (some g)))
              | (go_at_call 13; refine (alike_any ho6.rd (HOQ.out _ hgB) hm8 hm9).mono ?_; rintro e w7 ⟨rfl, hb7⟩; rw [show decide (q.has = q.has) = true from by simp]; have hgC := grown_trans hgB (grown_of_below hb7 (some g))))
            all_goals
              go_wp2_with fail
              go_roundw
              case rel => exact ⟨i + 1, q, a3, k3, by simp, by omega, (h4.below hb6).below hb7, hk2, z_keep hgC hzX (fun e => by have := Option.some.inj e; omega), hoX.grown hgC (.inr (hoX.notAt (by omega))), hneX, hbX.grown hgC hbX.size (fun k hk => by cases hk; exact hle)⟩
              case measure => simp [intOf]; omega
        · go_wp2_with fail
          refine (told_any _).mono ?_
          rintro e w6 ⟨rfl, hb8⟩
          go_wp2_with fail
          go_ret
          exact ⟨rfl, below_trans hb hb8⟩
    · have hne : (newErr amount seats != newErr amount seats) = false := by simp
      have hne2 : (newErr amount seats == 0) = false := by simpa using hE
      have HE := hide hE
      clear hE
      go_enter Try.func4, Try.ntmps4
      go_wp2_with fail
      refine (newpot_no HE.out).mono ?_
      rintro e w1 ⟨rfl, rfl⟩
      go_wp2_with fail
      refine (newR_no HE.out).mono ?_
      rintro e w2 ⟨rfl, hb2⟩
      have bW := below_alloc w2 (.cells #[.int .i64 0, .slice none 0 0] 36 (0, 0))
      have hb3 := below_trans hb2 bW
      generalize newErr amount seats = er at *
      go_wp2_with fail
      go_loopw [11] (fun v11 wr => v11 = .int .i64 0 ∧ Below w.heap.size w wr) (fun v11 _ => 0)
      case atStart => exact ⟨rfl, hb3⟩
      case round =>
        obtain ⟨rfl, hb⟩ := hrel
        by_cases hlt : 0 < n
        · have iI : (0 : Int) < n := by omega
          go_wp2_with fail
          refine (told_any _).mono ?_
          rintro e w6 ⟨rfl, hb8⟩
          go_wp2_with fail
          go_ret
          exact ⟨rfl, below_trans hb hb8⟩
        · have iI : (n : Int) ≤ 0 := by omega
          go_wp2_with fail
          refine (told_any _).mono ?_
          rintro e w6 ⟨rfl, hb8⟩
          go_wp2_with fail
          go_ret
          exact ⟨rfl, below_trans hb hb8⟩
  · have t1 : (40 : Int) < n := by omega
    go_enter Try.func4, Try.ntmps4
    go_wp2_with fail
    refine (told_any _).mono ?_
    rintro e w4 ⟨rfl, hb4⟩
    go_wp2_with fail
    go_ret
    exact ⟨rfl, hb4⟩

theorem pots_walk : LawWalk 4 Try.f4.params.toList := by
  intro W args h
  obtain ⟨v0, v1, v2, rfl, h0, h1, h2⟩ := argsOk3 h
  obtain ⟨a, rfl, _, _⟩ := one_i64 Try.underlying3 h0
  obtain ⟨b, rfl, _, _⟩ := one_i64 Try.underlying3 h1
  obtain ⟨ao, n, c, l, rfl, hR, _, hn⟩ := one_asks h2
  exact pots_any hR hn

set_option maxRecDepth 100000 in
theorem coinPots_lifted (os : Os) (started : os.Started) (H : Type) (enc : TypeId × Value → H) :
    ReturnsInHanded {} Try.checked os 4 .any (Rows.coinPotsSpec.pre6 enc Try.prog Try.f4 Rows.coinPotsRow.domain false) (Rows.coinPotsSpec.post enc Try.prog Try.f4 false true false false) :=
  law_lifted Try.func4 rfl rfl (by decide +kernel) (fun H ds h => by match ds, h with | [_, _, _], _ => rfl) (by kernel_rfl) os started H enc
    (ChangeSpec.witness6 (enc := enc) (C := Try.checked) false ⟨#[], #[.int .i64 0, .int .i64 0, .slice none 0 0], []⟩ 8 (by kernel_rfl) (by kernel_rfl) (by kernel_rfl) (by kernel_rfl)) pots_walk

theorem coinPots_proved : Rows.CoinPotsSaid :=
  OpenClaim.holds_of_wide 4 Try.f4 rfl rfl rfl rfl rfl rfl rfl ⟨rfl, rfl, rfl, rfl, rfl⟩ rfl rfl rfl rfl rfl (by kernel_rfl) Try.func4 (by kernel_rfl)
    (of_decide_eq_true (by kernel_rfl)) (by unfold Func.isWrapper; first | (rw [if_pos (by decide +kernel)]; kernel_rfl) | (rw [if_neg (by decide +kernel)]; exact ⟨rfl, rfl⟩))
    (fun os started H enc _ => coinPots_lifted os started H enc)
#print axioms coinPots_proved
end Go.Proofs.Ytmdmgmddblokoaa
