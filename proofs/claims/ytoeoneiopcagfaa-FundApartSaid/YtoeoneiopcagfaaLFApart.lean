/- FundApart: what is handed in isn't kept, and answers are new memory. -/
import Derived.Test.YtoeoneiopcagfaaFundG
import Derived.Test.YtoeoneiopcagfaaFundF
namespace Go.Proofs.Ytoeoneiopcagfaa
open Go.RowKit

/-- A store into an owned list that lies below a fund leaves the fund alone. -/
theorem FundP.keepBelow {w w' : World} {base g : Nat} {f : FundX} {g2 : Nat} (h : FundP w base g f) (hg : w.grownBy w' (some g2)) (h2 : g2 < base) : FundP w' base g f := h.keepDown hg h2

set_option maxRecDepth 100000 in
set_option maxHeartbeats 4000000 in
theorem fapart_any {ao : Option Addr} {n c : Nat} {l : List Int} {due v : Int} {w : World} (hR : RdS intE w ao n c l) (hn : n ≤ 17592186043904) :
    Calls Try.prog 3 #[.agg #[.slice ao n c, .int .i64 due], .int .i64 v] w fun e w' => e = .returned (.bool true) ∧ Below w.heap.size w w' := by
  have hb0 := below_alloc w (.cells #[.slice ao n c, .int .i64 due] 24 (0, 0))
  have hz := heap_alloc_new w (.cells #[.slice ao n c, .int .i64 due] 24 (0, 0))
  have hlt0 : w.heap.size < (w.alloc (.cells #[.slice ao n c, .int .i64 due] 24 (0, 0))).heap.size := by simp
  go_enter Try.func3, Try.ntmps3
  go_upto_region 1 with fail
  generalize w.alloc (.cells #[.slice ao n c, .int .i64 due] 24 (0, 0)) = W0 at *
  have hcells : ∀ W, Below W0.heap.size W0 W → W.cell? ⟨w.heap.size, 0, none⟩ = some (.slice ao n c) ∧ W.cell? ⟨w.heap.size, 1, none⟩ = some (.int .i64 due) := fun W hb => by
    have h := (hb.block _ hlt0).trans hz
    constructor
    · unfold World.cell?; rw [h]; rfl
    · unfold World.cell?; rw [h]; rfl
  have HC := hide hcells
  have hbE := below_alloc W0 (.cells #[] 3)
  obtain ⟨d0, d1⟩ := hcells _ hbE
  have hRw := (hR.below hb0).below hbE
  have hH := hide hz
  clear hcells hz
  go_wp2_with (at_builtin; refine wpList_app intE_ok sTI rfl (.tmp 11) (.tmp 13) rfl rfl (OwnS.emptyRow W0 (Nat.le_refl _)) rfl hRw (by omega) (by unfold maxLen; omega) (by simp) ?_)
  intro a1 k1 w1 ho hg hne
  have hb1 := hbE.grown hg (by simp) (fun k hk => by simp [Value.ownBlock] at hk; omega)
  have ho : OwnS intE w1 W0.heap.size a1 n k1 l := by simpa using ho
  clear hne
  obtain ⟨d0, d1⟩ := HC.out _ hb1
  have hnn : n ≤ 140737488351232 := by omega
  have HNN := hide hnn
  clear hnn d0 hRw hbE
  by_cases hE : newFErr l due = 0
  · have HE := hide hE
    clear hE
    go_wp2_with fail
    refine (fundnew_ok ho.rd HNN.out HE.out).mono ?_
    rintro e w2 ⟨g, rfl, h, hk, hb2⟩
    have hA1 : ∀ g1, a1 = some ⟨g1, 0, none⟩ → g1 < w1.heap.size ∧ W0.heap.size ≤ g1 := fun g1 e => by
      obtain ⟨g3, e3, hx, hy⟩ := ho.addr _ e
      cases e3
      exact ⟨hy, hx⟩
    have HA1 := hide hA1
    have ho := ho.below hb2
    have hb := below_trans hb1 hb2
    obtain ⟨F, hF, hFs⟩ : ∃ F : FundX, F = ⟨l, due, List.replicate n false⟩ ∧ F.stakes = l := ⟨_, rfl, rfl⟩
    rw [← hF] at h hk
    have HFs := hide hFs
    clear hF hFs hA1 d1
    go_wp2_with fail
    go_loopw [8] (fun v8 wr => ∃ (i : Nat) (l1 : List Int), v8 = .int .i64 i ∧ i ≤ n ∧ OwnS intE wr W0.heap.size a1 n k1 l1 ∧ FundP wr w1.heap.size g F ∧ Below W0.heap.size W0 wr) (fun v8 _ => n - (intOf v8).toNat)
    case atStart => exact ⟨0, l, rfl, Nat.zero_le _, ho, h, hb⟩
    case round =>
      clear ho h hb hb1 hb2
      obtain ⟨i, l1, rfl, hin, ho, h, hb⟩ := hrel
      by_cases hlt : i < n
      · obtain ⟨ad, rfl⟩ : ∃ ad, a1 = some ad := by cases a1 with
          | none => have := ho.shape.2.2 rfl; omega
          | some ad => exact ⟨ad, rfl⟩
        obtain ⟨g1, rfl, _, _⟩ := ho.addr ad rfl
        obtain ⟨n1, n2⟩ := HA1.out g1 rfl
        obtain ⟨z, hz⟩ : ∃ z, l1[i]? = some z := ⟨_, List.getElem?_eq_getElem (by rw [ho.len]; exact hlt)⟩
        have c2 := ho.cell intE_ok hz (j := 0) rfl
        have c2 : wr.cell? ⟨g1, i, none⟩ = some (.int .i64 z) := by simpa [intE] using c2
        have f1 := ho.free i
        have ho2 := ho.put1 i v (u := .int .i64 v) (fun _ => rfl) rfl
        have hg2 : wr.grownBy (wr.setCell ⟨g1, i, none⟩ (.int .i64 v)) (some g1) := grown_setCell _ _ _
        have h2 := h.keepDown hg2 n1
        have hb2 := hb.grown hg2 hb.size (fun k hk => by cases hk; exact n2)
        clear hz ho h hb hg2 n1 n2
        go_wp2_with fail
        go_roundw
        case rel => exact ⟨i + 1, l1.set i v, by simp, by omega, ho2, h2, hb2⟩
        case measure => simp [intOf]; omega
      · go_wp2_with fail
        refine (stakes_any h hk).mono ?_
        rintro e w4 ⟨a4, c4, rfl, ho4, hb4⟩
        have hm8 := hk.most
        go_wp2_with fail
        go_loopw [10] (fun v10 wr2 => ∃ (j : Nat) (l4 : List Int), v10 = .int .i64 j ∧ j ≤ F.stakes.length ∧ OwnS intE wr2 wr.heap.size a4 F.stakes.length c4 l4 ∧ Below wr.heap.size wr wr2) (fun v10 _ => F.stakes.length - (intOf v10).toNat)
        case atStart => exact ⟨0, F.stakes, rfl, Nat.zero_le _, ho4, hb4⟩
        case round =>
          clear ho4 hb4 ho
          obtain ⟨j, l4, rfl, hj, ho4, hb4⟩ := hrel
          by_cases hlt2 : j < F.stakes.length
          · obtain ⟨ad, rfl⟩ : ∃ ad, a4 = some ad := by cases a4 with
              | none => have := ho4.shape.2.2 rfl; omega
              | some ad => exact ⟨ad, rfl⟩
            obtain ⟨g4, rfl, n2, _⟩ := ho4.addr ad rfl
            obtain ⟨z, hz⟩ : ∃ z, l4[j]? = some z := ⟨_, List.getElem?_eq_getElem (by rw [ho4.len]; exact hlt2)⟩
            have c2 := ho4.cell intE_ok hz (j := 0) rfl
            have c2 : wr.cell? ⟨g4, j, none⟩ = some (.int .i64 z) := by simpa [intE] using c2
            have f1 := ho4.free j
            have ho2 := ho4.put1 j v (u := .int .i64 v) (fun _ => rfl) rfl
            have hg2 : wr.grownBy (wr.setCell ⟨g4, j, none⟩ (.int .i64 v)) (some g4) := grown_setCell _ _ _
            have hb2 := hb4.grown hg2 hb4.size (fun k hk => by cases hk; exact n2)
            clear hz ho4 hb4 hg2 n2
            go_wp2_with fail
            go_roundw
            case rel => exact ⟨j + 1, l4.set j v, by simp, by omega, ho2, hb2⟩
            case measure => simp [intOf]; omega
          · have h := h.below hb4
            have hb := below_trans hb hb4
            clear ho4 hb4
            have hbd := below_trans hb (Below.refl wr.heap.size wr).drew
            have h := h.below (Below.refl wr.heap.size wr).drew
            have hRd := (hR.below hb0).below hbd
            have hm9 : F.stakes.length ≤ 140737488351232 := by omega
            have HD := hide hbd
            clear hm8
            go_wp2_with fail
            go_region_held3 (fun w' : World => w'.cell? ⟨w.heap.size, 0, none⟩ = some (.slice ao n c)) (first | exact (HC.out _ hbd).1 | exact (HC.out _ hb5).1 | exact (HC.out _ hb6).1 | exact (HC.out _ hb7).1) (first
              | (go_at_call 13; refine (stakes_any h hk).mono ?_; rintro e w5 ⟨a5, c5, rfl, ho5, hb5'⟩; have hb5 := below_trans hbd hb5')
              | (go_at_call 14; refine (alike_any ho5.rd (hRd.below hb5') hm9 HNN.out).mono ?_; rintro e w6 ⟨rfl, hb6'⟩; rw [show decide (F.stakes = l) = true from by simp [HFs.out]]; have hb6 := below_trans hb5 hb6')
              | (go_at_call 12; refine (told_any _).mono ?_; rintro e w7 ⟨rfl, hb7'⟩; have hb7 := below_trans hb6 hb7'))
            all_goals
              go_wp2_with fail
              go_ret
              exact ⟨rfl, below_trans hb0 hb7⟩
  · have hne : (newFErr l due != 0) = true := by simpa using hE
    have HE := hide hE
    clear hE
    go_wp2_with fail
    refine (fundnew_no ho.rd HNN.out HE.out).mono ?_
    rintro e w2 ⟨rfl, rfl⟩
    go_wp2_with fail
    refine (told_any _).mono ?_
    rintro e w4 ⟨rfl, hb4⟩
    go_wp2_with fail
    go_ret
    exact ⟨rfl, below_trans (below_trans hb0 hb1) hb4⟩

theorem fapart_walk : LawWalk 3 Try.f3.params.toList := by
  intro W args h
  obtain ⟨v0, v1, rfl, h0, h1⟩ := argsOk2 h
  obtain ⟨ao, n, c, l, due, rfl, hR, _, hn, _⟩ := one_start h0
  obtain ⟨v, rfl, _, _⟩ := one_i64 Try.underlying3 h1
  exact fapart_any hR hn

set_option maxRecDepth 100000 in
theorem fundApart_lifted (os : Os) (started : os.Started) (H : Type) (enc : TypeId × Value → H) :
    ReturnsInHanded {} Try.checked os 3 .any (Rows.fundApartSpec.pre6 enc Try.prog Try.f3 Rows.fundApartRow.domain false) (Rows.fundApartSpec.post enc Try.prog Try.f3 false true false false) :=
  law_lifted Try.func3 rfl rfl (by decide +kernel) (fun H ds h => by match ds, h with | [_, _], _ => rfl) (by kernel_rfl) os started H enc
    (ChangeSpec.witness6 (enc := enc) (C := Try.checked) false ⟨#[], #[.agg #[.slice none 0 0, .int .i64 0], .int .i64 0], []⟩ 8 (by kernel_rfl) (by kernel_rfl) (by kernel_rfl) (by kernel_rfl)) fapart_walk

theorem fundApart_proved : Rows.FundApartSaid :=
  OpenClaim.holds_of_wide 3 Try.f3 rfl rfl rfl rfl rfl rfl rfl ⟨rfl, rfl, rfl, rfl, rfl⟩ rfl rfl rfl rfl rfl (by kernel_rfl) Try.func3 (by kernel_rfl)
    (of_decide_eq_true (by kernel_rfl)) (by unfold Func.isWrapper; first | (rw [if_pos (by decide +kernel)]; kernel_rfl) | (rw [if_neg (by decide +kernel)]; exact ⟨rfl, rfl⟩))
    (fun os started H enc _ => fundApart_lifted os started H enc)
#print axioms fundApart_proved
end Go.Proofs.Ytoeoneiopcagfaa
