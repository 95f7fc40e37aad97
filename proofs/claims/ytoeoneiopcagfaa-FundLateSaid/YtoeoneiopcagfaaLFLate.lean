/- FundLate: behind the height nothing is laid any more; at it all may be. -/
import Derived.Test.YtoeoneiopcagfaaFundG
import Derived.Test.YtoeoneiopcagfaaFundF
import Derived.StillTailTactics
namespace Go.Proofs.Ytoeoneiopcagfaa
open Go.RowKit

/-- A fund of which the first i seats have laid. -/
def fillF (l : List Int) (due : Int) (i : Nat) : FundX := ⟨l, due, List.replicate i true ++ List.replicate (l.length - i) false⟩

theorem fillF_zero (l : List Int) (due : Int) {n : Nat} (hl : l.length = n) : (⟨l, due, List.replicate n false⟩ : FundX) = fillF l due 0 := by unfold fillF; rw [hl]; simp

theorem fill_set {i n : Nat} (h : i < n) : (List.replicate i true ++ List.replicate (n - i) false).set i true = List.replicate (i + 1) true ++ List.replicate (n - (i + 1)) false := by
  rw [show n - i = (n - (i + 1)) + 1 by omega, List.replicate_succ, List.set_append_right _ _ (by simp), List.length_replicate, Nat.sub_self, List.set_cons_zero, List.replicate_succ', List.append_assoc]
  rfl

theorem fillF_lay {l : List Int} {due : Int} {i : Nat} (hi : i < l.length) {now : Int} (hn : now ≤ due) : layF (fillF l due i) i (l.getD i 0) now = (fillF l due (i + 1), 0) := by
  unfold layF fillF
  simp only
  rw [if_neg (by rw [there_iff.2 ⟨i, rfl, hi⟩]; simp), if_neg (by omega), if_neg (by simp [List.getD_eq_getElem?_getD, List.getElem?_append, List.getElem?_replicate, show 0 < l.length - i by omega]), if_pos (by simp)]
  simp only [Int.toNat_natCast, fill_set hi]

theorem fillF_ok {l : List Int} {due : Int} (hk : (fillF l due 0).Ok) {i : Nat} (hi : i ≤ l.length) : (fillF l due i).Ok :=
  ⟨by unfold fillF; simp; omega, hk.two, hk.most, hk.pos, hk.sum⟩

theorem fillF_full (l : List Int) (due : Int) : fullF (fillF l due l.length) = true := by
  unfold fullF fillF
  simp

theorem fillF_open {l : List Int} (due : Int) {i : Nat} (hi : i < l.length) : fullF (fillF l due i) = false := by
  unfold fullF fillF
  simp only [List.all_append, Bool.and_eq_false_iff]
  right
  rw [List.all_eq_false]
  exact ⟨false, by simp; omega, by simp⟩

theorem fillF_held (l : List Int) (due : Int) : heldF (fillF l due 0) = 0 := by
  unfold heldF givens fillF
  simp only [List.replicate_zero, List.nil_append, Nat.sub_zero]
  induction l with
  | nil => rfl
  | cons x l ih => rw [List.length_cons, List.replicate_succ, List.zipWith_cons_cons, List.sum_cons, ih]; simp

theorem fillF_late {l : List Int} {due now : Int} {k : Nat} (hk : k < l.length) (h : due < now) (x : Int) (i : Nat) : layF (fillF l due i) k x now = (fillF l due i, 19) := by
  unfold layF
  rw [if_neg (by rw [show (fillF l due i).stakes = l from rfl, there_iff.2 ⟨k, rfl, hk⟩]; simp), if_pos (show (fillF l due i).due < now from h)]

set_option maxRecDepth 100000 in
set_option maxHeartbeats 4000000 in
theorem flate_any {ao : Option Addr} {n c : Nat} {l : List Int} {due seat late : Int} {w : World} (hR : RdS intE w ao n c l) (hn : n ≤ 17592186043904) :
    Calls Try.prog 7 #[.agg #[.slice ao n c, .int .i64 due], .int .i64 seat, .int .i64 late] w fun e w' => e = .returned (.bool true) ∧ Below w.heap.size w w' := by
  have hb0 := below_alloc w (.cells #[.slice ao n c, .int .i64 due] 24 (0, 0))
  have hz := heap_alloc_new w (.cells #[.slice ao n c, .int .i64 due] 24 (0, 0))
  have hlt0 : w.heap.size < (w.alloc (.cells #[.slice ao n c, .int .i64 due] 24 (0, 0))).heap.size := by simp
  have hlen := hR.len
  have hnn : n ≤ 140737488351232 := by omega
  have HL := hide hlen
  have HNN := hide hnn
  clear hlen hnn
  go_enter Try.func7, Try.ntmps7
  go_upto_region 1 with fail
  generalize w.alloc (.cells #[.slice ao n c, .int .i64 due] 24 (0, 0)) = W0 at *
  have hcells : ∀ W, Below W0.heap.size W0 W → W.cell? ⟨w.heap.size, 0, none⟩ = some (.slice ao n c) ∧ W.cell? ⟨w.heap.size, 1, none⟩ = some (.int .i64 due) := fun W hb => by
    have h := (hb.block _ hlt0).trans hz
    constructor
    · unfold World.cell?; rw [h]; rfl
    · unfold World.cell?; rw [h]; rfl
  have HC := hide hcells
  obtain ⟨d0, d1⟩ := hcells _ (Below.refl _ _)
  clear hcells hz
  have hR0 := hR.below hb0
  by_cases hE : newFErr l due = 0
  · have HE := hide hE
    clear hE
    go_wp2_with fail
    refine (fundnew_ok hR0 HNN.out HE.out).mono ?_
    rintro e w2 ⟨g, rfl, h, hk, hb2⟩
    rw [fillF_zero l due HL.out] at h hk
    have hm8 : n ≤ 8 := by have := hk.most; rw [show (fillF l due 0).stakes.length = l.length from rfl, HL.out] at this; exact this
    obtain ⟨d2, d3⟩ := HC.out _ hb2
    obtain ⟨bb, hbb⟩ : ∃ bb : Bool, (seat < 0 ∧ bb = false) ∨ (0 ≤ seat ∧ (n : Int) ≤ seat ∧ bb = false) ∨ (0 ≤ seat ∧ seat < (n : Int) ∧ late ≤ due ∧ bb = false) ∨ (0 ≤ seat ∧ seat < (n : Int) ∧ due < late ∧ bb = true) := by
      rcases Int.lt_or_le seat 0 with h | h
      · exact ⟨false, .inl ⟨h, rfl⟩⟩
      · rcases Int.lt_or_le seat (n : Int) with h2 | h2
        · rcases Int.lt_or_le due late with h3 | h3
          · exact ⟨true, .inr (.inr (.inr ⟨h, h2, h3, rfl⟩))⟩
          · exact ⟨false, .inr (.inr (.inl ⟨h, h2, h3, rfl⟩))⟩
        · exact ⟨false, .inr (.inl ⟨h, h2, rfl⟩)⟩
    have HBB := hide hbb
    clear hbb
    have hle : W0.heap.size ≤ g := h.le
    go_upto_region 6 with fail
    go_cut [41] from 27 to 41 (fun v41 wr => v41 = .bool bb ∧ wr = w2)
    case first =>
      rcases HBB.out with ⟨t1, e⟩ | ⟨t1, t2, e⟩ | ⟨t1, t2, t3, e⟩ | ⟨t1, t2, t3, e⟩
      all_goals
        have HE2 := hide e
        clear e
        go_wp2_with fail
        go_meet
        case rel => exact ⟨by first | (rw [HE2.out]; done) | (rw [HE2.out]; simp; omega), rfl⟩
    case rest =>
      obtain ⟨rfl, rfl⟩ := hcut
      go_upto_if 41 with fail
      go_cut [9] from 27 to 62 (fun _ wr => FundP wr W0.heap.size g (fillF l due 0) ∧ Below W0.heap.size W0 wr)
      case first =>
        by_cases hbt : bb = true
        · have hq : 0 ≤ seat ∧ seat < (n : Int) ∧ due < late := by
            rcases HBB.out with ⟨t1, e⟩ | ⟨t1, t2, e⟩ | ⟨t1, t2, t3, e⟩ | ⟨t1, t2, t3, e⟩
            · rw [hbt] at e; cases e
            · rw [hbt] at e; cases e
            · rw [hbt] at e; cases e
            · exact ⟨t1, t2, t3⟩
          obtain ⟨q1, q2, q3⟩ := hq
          obtain ⟨k, rfl⟩ : ∃ k : Nat, seat = k := ⟨seat.toNat, by omega⟩
          have hkl : k < n := by omega
          obtain ⟨x, hx⟩ : ∃ x, l[k]? = some x := ⟨_, List.getElem?_eq_getElem (by rw [HL.out]; exact hkl)⟩
          obtain ⟨b, o, hao, c3⟩ := (hR0.below hb2).int hx
          subst hbt
          subst hao
          have hlt := fillF_late (l := l) (due := due) (now := late) (k := k) (by rw [HL.out]; exact hkl) q3 x 0
          have hph : phaseF (fillF l due 0) late = 2 := by unfold phaseF; rw [if_neg (by rw [fillF_open due (by rw [HL.out]; omega)]; simp), if_pos (show (fillF l due 0).due < late from q3)]
          have HLT := hide hlt
          have HPH := hide hph
          clear hlt hph hx
          go_wp2_with fail
          refine (lay_any (seat := (k : Int)) (amount := x) (now := late) h hk).mono ?_
          rintro e w3 ⟨rfl, h3, hg3⟩
          rw [HLT.out] at h3 ⊢
          have hb3 := hb2.grown hg3 hb2.size (fun k hk => by cases hk; exact hle)
          go_wp2_with fail
          refine (held_any h3 hk).mono ?_
          rintro e w4 ⟨rfl, hb4⟩
          rw [fillF_held]
          have h4 := h3.below hb4
          have hb5 := below_trans hb3 hb4
          go_wp2_with fail
          refine (phase_any (now := late) h4 hk).mono ?_
          rintro e w5 ⟨rfl, hb6⟩
          rw [HPH.out]
          have h5 := h4.below hb6
          have hb7 := below_trans hb5 hb6
          go_wp2_with fail
          go_meet
          case rel => exact ⟨h5, hb7⟩
        · have hbf : bb = false := by simpa using hbt
          subst hbf
          go_wp2_with fail
          go_meet
          case rel => exact ⟨h, hb2⟩
      case rest =>
        clear h hb2 d0 d1 d2 d3 hk
        obtain ⟨h, hb⟩ := hcut
        have hkk : (fillF l due 0).Ok := (newF_ok HE.out).2.2.2.2.2.2 |> fun h => by rw [fillF_zero l due rfl] at h; exact h
        go_upto_region 9 with fail
        go_wp2_with fail
        go_loopw [9] (fun v9 wr => ∃ (i : Nat), v9 = .int .i64 i ∧ i ≤ n ∧ FundP wr W0.heap.size g (fillF l due i) ∧ Below W0.heap.size W0 wr) (fun v9 _ => n - (intOf v9).toNat)
        case atStart => exact ⟨0, rfl, Nat.zero_le _, h, hb⟩
        case round =>
          clear h hb
          obtain ⟨i, rfl, hin, h, hb⟩ := hrel
          obtain ⟨e0, e1⟩ := HC.out _ hb
          have hki : (fillF l due i).Ok := fillF_ok hkk (by rw [HL.out]; exact hin)
          by_cases hlt : i < n
          · have hil : i < l.length := by rw [HL.out]; exact hlt
            have hfl := fillF_lay (l := l) (due := due) hil (Int.le_refl due)
            obtain ⟨b, o, hao, c3⟩ := (hR0.below hb).int (getD_some (d := 0) hil)
            subst hao
            have HFL := hide hfl
            have hil2 : (i : Int) < (n : Int) := by omega
            clear hfl
            generalize l.getD i 0 = x at *
            go_wp2_with fail
            go_still_tail 9, (by kernel_rfl)
            change wpList _ _ _ _ _ wr.drew
            have hd : Below wr.heap.size wr wr.drew := (Below.refl _ _).drew
            have h := h.below hd
            have hb := below_trans hb hd
            clear e0 e1 c3 hd
            generalize wr.drew = W1 at *
            go_wp2_with fail
            refine (lay_any (seat := (i : Int)) (amount := x) (now := due) h hki).mono ?_
            rintro e w3 ⟨rfl, h3, hg3⟩
            rw [HFL.out] at h3 ⊢
            have hb3 := hb.grown hg3 hb.size (fun k hk => by cases hk; exact hle)
            go_wp2_with fail
            go_roundw
            case rel => exact ⟨i + 1, by simp, by omega, h3, hb3⟩
            case measure => simp [intOf]; omega
          · have hie : i = l.length := by rw [HL.out]; omega
            have hph : phaseF (fillF l due i) late = 1 := by unfold phaseF; rw [if_pos (by rw [hie]; exact fillF_full l due)]
            have HPH := hide hph
            clear hph hie
            go_wp2_with fail
            refine (phase_any (now := late) h hki).mono ?_
            rintro e w5 ⟨rfl, hb6⟩
            rw [HPH.out]
            go_wp2_with fail
            refine (told_any _).mono ?_
            rintro e w6 ⟨rfl, hb7⟩
            go_wp2_with fail
            go_ret
            exact ⟨rfl, below_trans hb0 (below_trans (below_trans hb hb6) hb7)⟩
  · have hne : (newFErr l due != 0) = true := by simpa using hE
    have HE := hide hE
    clear hE
    go_wp2_with fail
    refine (fundnew_no hR0 HNN.out HE.out).mono ?_
    rintro e w2 ⟨rfl, rfl⟩
    go_wp2_with fail
    refine (told_any _).mono ?_
    rintro e w4 ⟨rfl, hb4⟩
    go_wp2_with fail
    go_ret
    exact ⟨rfl, below_trans hb0 hb4⟩

theorem flate_walk : LawWalk 7 Try.f7.params.toList := by
  intro W args h
  obtain ⟨v0, v1, v2, rfl, h0, h1, h2⟩ := argsOk3 h
  obtain ⟨ao, n, c, l, due, rfl, hR, _, hn, _⟩ := one_start h0
  obtain ⟨a, rfl, _, _⟩ := one_i64 Try.underlying3 h1
  obtain ⟨b, rfl, _, _⟩ := one_i64 Try.underlying3 h2
  exact flate_any hR hn

set_option maxRecDepth 100000 in
theorem fundLate_lifted (os : Os) (started : os.Started) (H : Type) (enc : TypeId × Value → H) :
    ReturnsInHanded {} Try.checked os 7 .any (Rows.fundLateSpec.pre6 enc Try.prog Try.f7 Rows.fundLateRow.domain false) (Rows.fundLateSpec.post enc Try.prog Try.f7 false true false false) :=
  law_lifted Try.func7 rfl rfl (by decide +kernel) (fun H ds h => by match ds, h with | [_, _, _], _ => rfl) (by kernel_rfl) os started H enc
    (ChangeSpec.witness6 (enc := enc) (C := Try.checked) false ⟨#[], #[.agg #[.slice none 0 0, .int .i64 0], .int .i64 0, .int .i64 0], []⟩ 8 (by kernel_rfl) (by kernel_rfl) (by kernel_rfl) (by kernel_rfl)) flate_walk

theorem fundLate_proved : Rows.FundLateSaid :=
  OpenClaim.holds_of_wide 7 Try.f7 rfl rfl rfl rfl rfl rfl rfl ⟨rfl, rfl, rfl, rfl, rfl⟩ rfl rfl rfl rfl rfl (by kernel_rfl) Try.func7 (by kernel_rfl)
    (of_decide_eq_true (by kernel_rfl)) (by unfold Func.isWrapper; first | (rw [if_pos (by decide +kernel)]; kernel_rfl) | (rw [if_neg (by decide +kernel)]; exact ⟨rfl, rfl⟩))
    (fun os started H enc _ => fundLate_lifted os started H enc)
#print axioms fundLate_proved
end Go.Proofs.Ytoeoneiopcagfaa
