/- FundKeeps: nothing is lost: what is held is what was laid, less what was taken back; nobody gets back more than was laid. -/
import Derived.Test.YtoeoneiopcagfaaFundK
import Derived.Test.YtoeoneiopcagfaaFundF
import Derived.StillTailTactics
namespace Go.Proofs.Ytoeoneiopcagfaa
open Go.RowKit

set_option maxRecDepth 100000 in
set_option maxHeartbeats 4000000 in
theorem fkeeps_any {ao aq : Option Addr} {n c m cq : Nat} {l : List Int} {acts : List ActX} {due : Int} {w : World} (hR : RdS intE w ao n c l) (hn : n ≤ 17592186043904) (hA : RdS actE w aq m cq acts) :
    Calls Try.prog 6 #[.agg #[.slice ao n c, .int .i64 due], .slice aq m cq] w fun e w' => e = .returned (.bool true) ∧ Below w.heap.size w w' := by
  have hb0 := below_alloc w (.cells #[.slice ao n c, .int .i64 due] 24 (0, 0))
  have hz := heap_alloc_new w (.cells #[.slice ao n c, .int .i64 due] 24 (0, 0))
  have hlt0 : w.heap.size < (w.alloc (.cells #[.slice ao n c, .int .i64 due] 24 (0, 0))).heap.size := by simp
  have hlen := hR.len
  have hnn : n ≤ 140737488351232 := by omega
  have HL := hide hlen
  have HNN := hide hnn
  clear hlen hnn
  go_enter Try.func6, Try.ntmps6
  go_upto_region 1 with fail
  generalize w.alloc (.cells #[.slice ao n c, .int .i64 due] 24 (0, 0)) = W0 at *
  have hcells : ∀ W, Below W0.heap.size W0 W → W.cell? ⟨w.heap.size, 0, none⟩ = some (.slice ao n c) ∧ W.cell? ⟨w.heap.size, 1, none⟩ = some (.int .i64 due) := fun W hb => by
    have h := (hb.block _ hlt0).trans hz
    constructor
    · unfold World.cell?; rw [h]; rfl
    · unfold World.cell?; rw [h]; rfl
  have HC := hide hcells
  obtain ⟨d0, d1⟩ := hcells _ (Below.refl _ _)
  clear hcells hz
  have hR0 := hR.below hb0
  have hA0 := hA.below hb0
  by_cases h40 : m ≤ 40
  · have t1 : (m : Int) ≤ 40 := by omega
    by_cases hE : newFErr l due = 0
    · have HE := hide hE
      clear hE
      go_wp2_with fail
      refine (fundnew_ok hR0 HNN.out HE.out).mono ?_
      rintro e w2 ⟨g, rfl, h, hk, hb2⟩
      have hm8 : n ≤ 8 := by have := hk.most; rw [show (⟨l, due, List.replicate n false⟩ : FundX).stakes.length = l.length from rfl, HL.out] at this; exact this
      obtain ⟨d2, d3⟩ := HC.out _ hb2
      have hgl := h.lt
      have hle : W0.heap.size ≤ g := h.le
      obtain ⟨so, sc, hq⟩ := h
      have hfl : (⟨l, due, List.replicate n false⟩ : FundX).stakes.length = n := HL.out
      have hso : (Value.slice so n sc).ownBlock = none ∨ (Value.slice so n sc).ownBlock ≠ some w2.heap.size := by
        cases so with
        | none => exact .inl rfl
        | some ad =>
          obtain ⟨g3, rfl, _, hb⟩ := hq.own.addr ad rfl
          refine .inr ?_
          simp [Value.ownBlock]
          omega
      have hgiv := givens_start l due HL.out
      obtain ⟨F, hF⟩ : ∃ F : FundX, F = ⟨l, due, List.replicate n false⟩ := ⟨_, rfl⟩
      rw [← hF] at hq hk hfl hgiv
      have HSO := hide hso
      have HFL := hide hfl
      have HG := hide hgiv
      clear hso d0 d1 hF hfl hgiv
      go_wp2_with (refine wpList_make1 sTI rfl _ _ rfl rfl rfl (0 : Int) rfl rfl rfl (by omega) (by unfold maxLen; omega) ?_)
      intro w3 hin hb3
      rw [← HG.out] at hin
      have hq := hq.below hb3
      have hb := below_trans hb2 hb3
      have hw2 : W0.heap.size ≤ w2.heap.size := hb2.size
      clear d2 d3 hb2 hb3
      go_wp2_with fail
      go_loopw [8] (fun v8 wr => ∃ (i : Nat) (f : FundX), v8 = .int .i64 i ∧ i ≤ m ∧ FundQ wr W0.heap.size g so sc f ∧ f.Ok ∧ Hidden (f.stakes.length = n) ∧ OwnS intE wr w2.heap.size (some ⟨w2.heap.size, 0, none⟩) n n (givens f) ∧ Below W0.heap.size W0 wr) (fun v8 _ => m - (intOf v8).toNat)
      case atStart => exact ⟨0, F, rfl, Nat.zero_le _, hq, hk, HFL, hin, hb⟩
      case round =>
        clear hq hk hin hb HG HFL
        obtain ⟨i, f, rfl, hi, hq, hk, HFL, hin, hb⟩ := hrel
        by_cases hlt : i < m
        · obtain ⟨x, hx, _, _⟩ := hA0.next hlt
          obtain ⟨b, o, rfl, c0, c1, c2, c3⟩ := act_at (hA0.below hb) hx
          have HX := hide hx
          clear hx
          go_upto_if 48 with fail
          go_cut [9, 10] from 44 to 115 (fun _ _ wr2 => ∃ (f2 : FundX), FundQ wr2 W0.heap.size g so sc f2 ∧ f2.Ok ∧ Hidden (f2.stakes.length = n) ∧ OwnS intE wr2 w2.heap.size (some ⟨w2.heap.size, 0, none⟩) n n (givens f2) ∧ Below W0.heap.size W0 wr2)
          case first =>
            have hwg : g ≠ w2.heap.size := fun e => by omega
            cases hbk : x.back
            · rw [hbk] at c0
              clear hbk
              go_wp2_with fail
              go_still_tail 16, (by kernel_rfl)
              change wpList _ _ _ _ _ wr.drew
              have hd : Below wr.heap.size wr wr.drew := (Below.refl _ _).drew
              have hq := hq.below hd
              have hin := hin.below hd
              have hb := below_trans hb hd
              clear c0 c1 c2 c3 hd
              generalize wr.drew = W1 at *
              go_wp2_with fail
              refine (lay_anyQ (seat := x.seat) (amount := x.amount) (now := x.now) hq hk).mono ?_
              rintro e w4 ⟨rfl, hq4, hg4⟩
              have hb4 := hb.grown hg4 hb.size (fun k hk => by cases hk; exact hle)
              have hin4 := hin.grown hg4 (.inr (by simp [Value.ownBlock]; omega))
              have hk4 := hk.lay x.seat x.amount x.now
              have hfl4 : (layF f x.seat x.amount x.now).1.stakes.length = n := by rw [layF_stakes]; exact HFL.out
              rcases lay_in hk x.seat x.amount x.now with ⟨e0, k, hs, hkl, hz0, ha0, ha1, hgv⟩ | ⟨e0, e1⟩
              · rw [e0]
                generalize (layF f x.seat x.amount x.now).1 = f4 at *
                obtain ⟨b', o', he, k0, k1, k2, k3⟩ := act_at (hA0.below hb4) HX.out
                cases he
                rw [hs] at k1
                rw [HFL.out] at hkl
                have hx : (givens f)[k]? = some 0 := by rw [← hz0]; exact getD_some (by rw [givens_len hk, HFL.out]; exact hkl)
                have HFL4 := hide hfl4
                have HX0 := hide hx
                have kI : (k : Int) < (n : Int) := by omega
                have HGV := hide hgv
                have hd : Below w4.heap.size w4 w4.drew := (Below.refl _ _).drew
                clear e0 hs hz0 hgv hfl4 hx hq hin hb hg4
                generalize x.amount = am at *
                have hw5 : IntKind.i64.wrap am = am := by go_arith
                have cz := hin4.cell intE_ok HX0.out (j := 0) rfl
                have cz : w4.cell? ⟨w2.heap.size, k, none⟩ = some (.int .i64 0) := by simpa [intE] using cz
                go_wp2_with fail
                go_still_tail 15, (by kernel_rfl)
                change wpList _ _ _ _ _ w4.drew
                have hq4 := hq4.below hd
                have hin4 := hin4.below hd
                have hb4 := below_trans hb4 hd
                clear k0 k1 k2 k3 cz hd
                generalize w4.drew = W2 at *
                have cz := hin4.cell intE_ok HX0.out (j := 0) rfl
                have cz : W2.cell? ⟨w2.heap.size, k, none⟩ = some (.int .i64 0) := by simpa [intE] using cz
                have fz := hin4.free k
                have ho5 := hin4.put1 k am (u := .int .i64 am) (fun _ => rfl) rfl
                rw [← HGV.out] at ho5
                have hg5 : W2.grownBy (W2.setCell ⟨w2.heap.size, k, none⟩ (.int .i64 am)) (some w2.heap.size) := grown_setCell _ _ _
                have hq5 := hq4.keep hg5 (fun e => hwg (Option.some.inj e).symm) (by rw [HFL4.out]; exact HSO.out)
                have hb5 := hb4.grown hg5 hb4.size (fun k hk => by cases hk; exact hw2)
                go_wp2_with fail
                go_meet
                case rel => exact ⟨f4, hq5, hk4, HFL4, ho5, hb5⟩
              · have t9 : ((layF f x.seat x.amount x.now).2 == 0) = false := by simpa using e0
                rw [e1] at hq4
                generalize (layF f x.seat x.amount x.now).2 = er at *
                clear e0 e1 hfl4 hk4
                go_wp2_with fail
                go_meet
                case rel => exact ⟨f, hq4, hk, HFL, hin4, hb4⟩
            · rw [hbk] at c0
              clear hbk
              go_wp2_with fail
              have hcx : ∀ W, Below W0.heap.size W0 W → W.cell? ⟨b, o + i * 4 + 1, none⟩ = some (.int .i64 x.seat) ∧ W.cell? ⟨b, o + i * 4 + 3, none⟩ = some (.int .i64 x.now) := fun W hW => by
                obtain ⟨b', o', he, k0, k1, k2, k3⟩ := act_at (hA0.below hW) HX.out
                cases he
                exact ⟨k1, k3⟩
              have HCX := hide hcx
              have ilI : (i : Int) < (m : Int) := by omega
              have hd : Below wr.heap.size wr wr.drew := (Below.refl _ _).drew
              have hq := hq.below hd
              have hin := hin.below hd
              have hb := below_trans hb hd
              clear c0 c1 c2 c3 hd hcx
              go_region_held3 (fun w' : World => w'.cell? ⟨b, o + i * 4 + 1, none⟩ = some (.int .i64 x.seat) ∧ w'.cell? ⟨b, o + i * 4 + 3, none⟩ = some (.int .i64 x.now)) (first | exact HCX.out _ hb | exact HCX.out _ hb4) (first
                | (go_at_call 19; refine (back_anyQ (seat := x.seat) (now := x.now) hq hk).mono ?_; rintro e w4 ⟨rfl, hq4, hg4⟩; have hb4 := hb.grown hg4 hb.size (fun k hk => by cases hk; exact hle)))
              all_goals
                have hin4 := hin.grown hg4 (.inr (by simp [Value.ownBlock]; omega))
                have hk4 := hk.back x.seat
                have hfl4 : (backF f x.seat).1.stakes.length = n := by rw [backF_stakes]; exact HFL.out
                rcases back_in hk x.seat with ⟨e0, k, hs, hkl, hn0, hgv⟩ | ⟨e0, e1, e2⟩
                · rw [e0, ← hn0]
                  generalize (backF f x.seat).1 = f4 at *
                  obtain ⟨b', o', he, k0, k1, k2, k3⟩ := act_at (hA0.below hb4) HX.out
                  cases he
                  rw [hs] at k1
                  obtain ⟨z0, z1, _⟩ := given_bound hk hkl
                  rw [HFL.out] at hkl
                  have hx : (givens f)[k]? = some ((givens f).getD k 0) := getD_some (by rw [givens_len hk, HFL.out]; exact hkl)
                  have cz := hin4.cell intE_ok hx (j := 0) rfl
                  have cz : w4.cell? ⟨w2.heap.size, k, none⟩ = some (.int .i64 ((givens f).getD k 0)) := by simpa [intE] using cz
                  have fz := hin4.free k
                  have ho5 := hin4.put1 k 0 (u := .int .i64 0) (fun _ => rfl) rfl
                  rw [← hgv] at ho5
                  have HFL4 := hide hfl4
                  have kI : (k : Int) < (n : Int) := by omega
                  have hg5 : w4.grownBy (w4.setCell ⟨w2.heap.size, k, none⟩ (.int .i64 0)) (some w2.heap.size) := grown_setCell _ _ _
                  have hq5 := hq4.keep hg5 (fun e => hwg (Option.some.inj e).symm) (by rw [HFL4.out]; exact HSO.out)
                  have hb5 := hb4.grown hg5 hb4.size (fun k hk => by cases hk; exact hw2)
                  clear e0 hn0 hgv hfl4 hx hq hin hb hg4
                  generalize (givens f).getD k 0 = z at *
                  go_wp2_with fail
                  go_meet
                  case rel => exact ⟨f4, hq5, hk4, HFL4, ho5, hb5⟩
                · rw [e1]
                  have t9 : ((backF f x.seat).2.2 == 0) = false := by simpa using e0
                  have t8 : ((backF f x.seat).2.2 != 0) = true := by simpa using e0
                  rw [e2] at hq4
                  generalize (backF f x.seat).2.2 = er at *
                  clear e0 e1 e2 hfl4 hk4
                  go_wp2_with fail
                  go_meet
                  case rel => exact ⟨f, hq4, hk, HFL, hin4, hb4⟩
          case rest =>
            clear hq hk hin hb HFL c0 c1 c2 c3
            obtain ⟨f, hq, hk, HFL, hin, hb⟩ := hcut
            obtain ⟨g1, g2⟩ := givens_pos hk
            have HP := hide g1
            have hsm := hk.sum
            have hgl2 := givens_len hk
            rw [HFL.out] at hgl2
            have HGL := hide hgl2
            have HSM := hide hsm
            have HG2 := hide g2
            clear g1 g2 hsm hgl2
            go_wp2_with fail
            go_loopw [11, 12] (fun v11 v12 wr2 => ∃ (k : Nat), v11 = .int .i64 ((givens f).take k).sum ∧ v12 = .int .i64 k ∧ k ≤ n ∧ Below wc.heap.size wc wr2) (fun _ v12 _ => n - (intOf v12).toNat)
            case atStart => exact ⟨0, by simp, rfl, Nat.zero_le _, Below.refl _ _⟩
            case round =>
              obtain ⟨k, rfl, rfl, hkn, hbb⟩ := hrel
              obtain ⟨s0, s1⟩ := sum_take_pos (givens f) k HP.out
              have s2 : (givens f).sum ≤ 1125899906842624 := by have := HSM.out; have := HG2.out; omega
              by_cases hlt2 : k < n
              · have hkl : k < f.stakes.length := by rw [HFL.out]; exact hlt2
                obtain ⟨z0, z1, z2⟩ := given_bound hk hkl
                have hx : (givens f)[k]? = some ((givens f).getD k 0) := getD_some (by rw [HGL.out]; exact hlt2)
                have e2 : ((givens f).take (k + 1)).sum = ((givens f).take k).sum + (givens f).getD k 0 := by rw [List.take_add_one, hx]; simp
                have hin2 := hin.below hbb
                have cz := hin2.cell intE_ok hx (j := 0) rfl
                have cz : wr.cell? ⟨w2.heap.size, k, none⟩ = some (.int .i64 ((givens f).getD k 0)) := by simpa [intE] using cz
                have H2 := hide e2
                have hgv := given_any (seat := (k : Int)) ⟨so, sc, (hq.below hbb).below (Below.refl wr.heap.size wr).drew⟩ hk
                rw [z2] at hgv
                have HGV := hide hgv
                have kI : (k : Int) < (n : Int) := by omega
                clear e2 hx z2 hin2 hgv
                generalize ((givens f).take k).sum = sm at *
                generalize (givens f).getD k 0 = z at *
                have q2 : sm ≤ 1125899906842624 := by omega
                clear s1 s2
                have t9 : decide (z < 0) = false := decide_eq_false (by omega)
                have t10 : (z != z) = false := by simp
                have cz2 : wr.drew.cell? ⟨w2.heap.size, k, none⟩ = some (.int .i64 z) := cz
                have hbd : Below wc.heap.size wc wr.drew := hbb.drew
                go_wp2_with fail
                go_region_held3 (fun w' : World => w'.cell? ⟨w2.heap.size, k, none⟩ = some (.int .i64 z)) (first | exact cz2 | exact cz) (first
                  | (go_at_call 23; refine HGV.out.mono ?_; rintro e w5 ⟨rfl, rfl⟩; have hq1 : 1 = 1 := rfl))
                all_goals
                  go_wp2_with fail
                  go_roundw
                  case rel => exact ⟨k + 1, by rw [H2.out], by simp, by omega, hbd⟩
                  case measure => simp [intOf]; omega
              · have hl : (givens f).take k = givens f := List.take_of_length_le (by rw [HGL.out]; omega)
                rw [hl] at s0 s1 ⊢
                have hq2 := hq.below hbb
                have hin2 := hin.below hbb
                have hb2 := below_trans hb hbb
                have hh : heldF f = (givens f).sum := rfl
                have HH := hide hh
                clear hl hh
                generalize (givens f).sum = sm at *
                go_wp2_with fail
                refine (held_any ⟨so, sc, hq2⟩ hk).mono ?_
                rintro e w5 ⟨rfl, hb5⟩
                rw [HH.out]
                go_wp2_with fail
                go_roundw
                case rel => exact ⟨i + 1, f, by simp, by omega, hq2.below hb5, hk, HFL, hin2.below hb5, below_trans hb2 hb5⟩
                case measure => simp [intOf]; omega
        · go_wp2_with fail
          refine (told_any _).mono ?_
          rintro e w6 ⟨rfl, hb7⟩
          go_wp2_with fail
          go_ret
          exact ⟨rfl, below_trans hb0 (below_trans hb hb7)⟩
    · have hne : (newFErr l due != 0) = true := by simpa using hE
      have HE := hide hE
      clear hE
      go_wp2_with fail
      refine (fundnew_no hR0 HNN.out HE.out).mono ?_
      rintro e w2 ⟨rfl, rfl⟩
      go_wp2_with fail
      refine (told_any _).mono ?_
      rintro e w4 ⟨rfl, hb4⟩
      go_wp2_with fail
      go_ret
      exact ⟨rfl, below_trans hb0 hb4⟩
  · have t1 : (40 : Int) < m := by omega
    go_wp2_with fail
    refine (told_any _).mono ?_
    rintro e w4 ⟨rfl, hb4⟩
    go_wp2_with fail
    go_ret
    exact ⟨rfl, below_trans hb0 hb4⟩

theorem fkeeps_walk : LawWalk 6 Try.f6.params.toList := by
  intro W args h
  obtain ⟨v0, v1, rfl, h0, h1⟩ := argsOk2 h
  obtain ⟨ao, n, c, l, due, rfl, hR, _, hn, _⟩ := one_start h0
  obtain ⟨aq, m, cq, acts, rfl, hA, _⟩ := one_acts h1
  exact fkeeps_any hR hn hA

set_option maxRecDepth 100000 in
theorem fundKeeps_lifted (os : Os) (started : os.Started) (H : Type) (enc : TypeId × Value → H) :
    ReturnsInHanded {} Try.checked os 6 .any (Rows.fundKeepsSpec.pre6 enc Try.prog Try.f6 Rows.fundKeepsRow.domain false) (Rows.fundKeepsSpec.post enc Try.prog Try.f6 false true false false) :=
  law_lifted Try.func6 rfl rfl (by decide +kernel) (fun H ds h => by match ds, h with | [_, _], _ => rfl) (by kernel_rfl) os started H enc
    (ChangeSpec.witness6 (enc := enc) (C := Try.checked) false ⟨#[], #[.agg #[.slice none 0 0, .int .i64 0], .slice none 0 0], []⟩ 8 (by kernel_rfl) (by kernel_rfl) (by kernel_rfl) (by kernel_rfl)) fkeeps_walk

theorem fundKeeps_proved : Rows.FundKeepsSaid :=
  OpenClaim.holds_of_wide 6 Try.f6 rfl rfl rfl rfl rfl rfl rfl ⟨rfl, rfl, rfl, rfl, rfl⟩ rfl rfl rfl rfl rfl (by kernel_rfl) Try.func6 (by kernel_rfl)
    (of_decide_eq_true (by kernel_rfl)) (by unfold Func.isWrapper; first | (rw [if_pos (by decide +kernel)]; kernel_rfl) | (rw [if_neg (by decide +kernel)]; exact ⟨rfl, rfl⟩))
    (fun os started H enc _ => fundKeeps_lifted os started H enc)
#print axioms fundKeeps_proved
end Go.Proofs.Ytoeoneiopcagfaa
