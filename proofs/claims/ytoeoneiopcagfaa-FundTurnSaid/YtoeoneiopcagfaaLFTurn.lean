/- FundTurn: in whichever order all lay, it is the same at last. -/
import Derived.Test.YtoeoneiopcagfaaFundS
import Derived.Test.YtoeoneiopcagfaaFundT
import Derived.Test.YtoeoneiopcagfaaFundF
namespace Go.Proofs.Ytoeoneiopcagfaa
open Go.RowKit

/-- A fund of which the first i seats have laid. -/
def fillF (l : List Int) (due : Int) (i : Nat) : FundX := ⟨l, due, List.replicate i true ++ List.replicate (l.length - i) false⟩

theorem fillF_zero (l : List Int) (due : Int) {n : Nat} (hl : l.length = n) : (⟨l, due, List.replicate n false⟩ : FundX) = fillF l due 0 := by unfold fillF; rw [hl]; simp

theorem fill_set {i n : Nat} (h : i < n) : (List.replicate i true ++ List.replicate (n - i) false).set i true = List.replicate (i + 1) true ++ List.replicate (n - (i + 1)) false := by
  rw [show n - i = (n - (i + 1)) + 1 by omega, List.replicate_succ, List.set_append_right _ _ (by simp), List.length_replicate, Nat.sub_self, List.set_cons_zero, List.replicate_succ', List.append_assoc]
  rfl

theorem fillF_lay {l : List Int} {due : Int} {i : Nat} (hi : i < l.length) {now : Int} (hn : now ≤ due) : layF (fillF l due i) i (l.getD i 0) now = (fillF l due (i + 1), 0) := by
  unfold layF fillF
  simp only
  rw [if_neg (by rw [there_iff.2 ⟨i, rfl, hi⟩]; simp), if_neg (by omega), if_neg (by simp [List.getD_eq_getElem?_getD, List.getElem?_append, List.getElem?_replicate, show 0 < l.length - i by omega]), if_pos (by simp)]
  simp only [Int.toNat_natCast, fill_set hi]

theorem fillF_ok {l : List Int} {due : Int} (hk : (fillF l due 0).Ok) {i : Nat} (hi : i ≤ l.length) : (fillF l due i).Ok :=
  ⟨by unfold fillF; simp; omega, hk.two, hk.most, hk.pos, hk.sum⟩

theorem turnF_ok {b : Bool} {f : Nat} {l : List Int} {due : Int} (hk : (fillF l due 0).Ok) (i : Nat) : (turnF b f l due i).Ok :=
  ⟨by unfold turnF; simp, hk.two, hk.most, hk.pos, hk.sum⟩

theorem fillF_all (l : List Int) (due : Int) : fillF l due l.length = ⟨l, due, List.replicate l.length true⟩ := by unfold fillF; simp

set_option maxRecDepth 100000 in
set_option maxHeartbeats 4000000 in
theorem fturn_any {ao : Option Addr} {n c fi : Nat} {l : List Int} {due : Int} {back : Bool} {w : World} (hR : RdS intE w ao n c l) (hn : n ≤ 17592186043904) (hfi : fi < 256) :
    Calls Try.prog 4 #[.agg #[.slice ao n c, .int .i64 due], .int .u8 fi, .bool back] w fun e w' => e = .returned (.bool true) ∧ Below w.heap.size w w' := by
  have hb0 := below_alloc w (.cells #[.slice ao n c, .int .i64 due] 24 (0, 0))
  have hz := heap_alloc_new w (.cells #[.slice ao n c, .int .i64 due] 24 (0, 0))
  have hlt0 : w.heap.size < (w.alloc (.cells #[.slice ao n c, .int .i64 due] 24 (0, 0))).heap.size := by simp
  have hlen := hR.len
  have hnn : n ≤ 140737488351232 := by omega
  have HL := hide hlen
  have HNN := hide hnn
  clear hlen hnn
  go_enter Try.func4, Try.ntmps4
  go_upto_region 1 with fail
  generalize w.alloc (.cells #[.slice ao n c, .int .i64 due] 24 (0, 0)) = W0 at *
  have hcells : ∀ W, Below W0.heap.size W0 W → W.cell? ⟨w.heap.size, 0, none⟩ = some (.slice ao n c) ∧ W.cell? ⟨w.heap.size, 1, none⟩ = some (.int .i64 due) := fun W hb => by
    have h := (hb.block _ hlt0).trans hz
    constructor
    · unfold World.cell?; rw [h]; rfl
    · unfold World.cell?; rw [h]; rfl
  have HC := hide hcells
  obtain ⟨d0, d1⟩ := hcells _ (Below.refl _ _)
  clear hcells hz
  have hR0 := hR.below hb0
  by_cases hE : newFErr l due = 0
  · have HE := hide hE
    clear hE
    go_wp2_with fail
    refine (fundnew_ok hR0 HNN.out HE.out).mono ?_
    rintro e w2 ⟨g, rfl, h, hk, hb2⟩
    rw [fillF_zero l due HL.out] at h hk
    have hm8 : n ≤ 8 := by have := hk.most; rw [show (fillF l due 0).stakes.length = l.length from rfl, HL.out] at this; exact this
    have hm2 : 2 ≤ n := by have := hk.two; rw [show (fillF l due 0).stakes.length = l.length from rfl, HL.out] at this; exact this
    have hdue : 0 ≤ due := (newF_ok HE.out).2.2.2.2.1
    obtain ⟨d2, d3⟩ := HC.out _ hb2
    have hgl := h.lt
    have hle : W0.heap.size ≤ g := h.le
    obtain ⟨so, sc, hq⟩ := h
    have hso : ∀ g2, w2.heap.size ≤ g2 → (Value.slice so (fillF l due 0).stakes.length sc).ownBlock = none ∨ (Value.slice so (fillF l due 0).stakes.length sc).ownBlock ≠ some g2 := fun g2 h2 => by
      cases so with
      | none => exact .inl rfl
      | some ad =>
        obtain ⟨g3, rfl, _, hb⟩ := hq.own.addr ad rfl
        refine .inr ?_
        simp [Value.ownBlock]
        omega
    have HSO := hide hso
    clear hso d0 d1
    go_wp2_with fail
    refine (fundnew_ok (hR0.below hb2) HNN.out HE.out).mono ?_
    rintro e w3 ⟨g2, rfl, h2, hk2, hb3⟩
    rw [turnF_zero back fi l due HL.out] at h2
    have hq := hq.below hb3
    have hb := below_trans hb2 hb3
    have hgg : w2.heap.size ≤ g2 := h2.le
    have hle2 : W0.heap.size ≤ g2 := Nat.le_trans hb2.size hgg
    obtain ⟨d4, d5⟩ := HC.out _ hb
    clear d2 d3 hk2
    have HM := hide hm2
    have nI : (2 : Int) ≤ (n : Int) := by omega
    have nI8 : (n : Int) ≤ 8 := by omega
    have fI : (fi : Int) ≤ 255 := by omega
    have n0 : ¬ (n : Int) = 0 := by omega
    clear hm2
    go_wp2_with fail
    go_loopw [12] (fun v12 wr => ∃ (i : Nat), v12 = .int .i64 i ∧ i ≤ n ∧ FundQ wr W0.heap.size g so sc (fillF l due i) ∧ FundP wr w2.heap.size g2 (turnF back fi l due i) ∧ Below W0.heap.size W0 wr) (fun v12 _ => n - (intOf v12).toNat)
    case atStart => exact ⟨0, rfl, Nat.zero_le _, hq, h2, hb⟩
    case round =>
      clear hq h2 hb hb2 hb3 d4 d5
      obtain ⟨i, rfl, hin, hq, h2, hb⟩ := hrel
      obtain ⟨e0, e1⟩ := HC.out _ hb
      by_cases hlt : i < n
      · have hil : i < l.length := by rw [HL.out]; exact hlt
        have hkl : kF back n fi i < n := kF_lt back hm8 hlt
        have hkl2 : kF back n fi i < l.length := by rw [HL.out]; exact hkl
        have hfl := fillF_lay (l := l) (due := due) hil hdue
        have htl := turnF_lay (b := back) (f := fi) (l := l) (due := due) (by rw [HL.out]; exact hm8) hil hdue
        rw [HL.out] at htl
        have hRw := hR0.below hb
        obtain ⟨b, o, hao, c3⟩ := hRw.int (getD_some (d := 0) hil)
        obtain ⟨b', o', hao', c4⟩ := hRw.int (getD_some (d := 0) hkl2)
        subst hao
        cases hao'
        have HY := hide (getD_some (d := 0) hkl2)
        have HFL := hide hfl
        have HTL := hide htl
        have hki : (fillF l due i).Ok := fillF_ok hk (by rw [HL.out]; exact hin)
        have hkt : (turnF back fi l due i).Ok := turnF_ok hk i
        have hmod : ((fi : Int) + (i : Int)) % (n : Int) = ((fi + i) % n : Nat) := by push_cast; rfl
        have hk0 : (fi + i) % n < n := Nat.mod_lt _ (by omega)
        have hcase : (back = false ∧ kF back n fi i = (fi + i) % n) ∨ (back = true ∧ (n : Int) - 1 - ((fi + i) % n : Nat) = (kF back n fi i : Nat)) := by
          cases back
          · left; exact ⟨rfl, rfl⟩
          · right; refine ⟨rfl, ?_⟩; show _ = ((n - 1 - (fi + i) % n : Nat) : Int); omega
        have iI : (i : Int) ≤ 8 := by omega
        have ilI : (i : Int) < (n : Int) := by omega
        generalize hkk : kF back n fi i = kk at *
        generalize (fi + i) % n = k0 at *
        generalize l.getD i 0 = x at *
        generalize l.getD kk 0 = y at *
        have kI : (kk : Int) < (n : Int) := by omega
        have kI0 : (k0 : Int) < (n : Int) := by omega
        clear hfl htl hil hkl2 hkk
        rcases hcase with ⟨rfl, rfl⟩ | ⟨rfl, hk1⟩
        all_goals
          go_wp2_with fail
          refine (lay_anyQ (seat := (i : Int)) (amount := x) (now := 0) hq hki).mono ?_
          rintro e w4 ⟨rfl, hq4, hg4⟩
          rw [HFL.out] at hq4 ⊢
          have hb4 := hb.grown hg4 hb.size (fun k hk => by cases hk; exact hle)
          have h24 := h2.keepDown hg4 hgl
          obtain ⟨e2, e3⟩ := HC.out _ hb4
          obtain ⟨b2, o2, hao2, c5⟩ := (hR0.below hb4).int HY.out
          cases hao2
          clear c3 c4 hb h2 hq hg4 e0 e1
          go_wp2_with fail
          refine (lay_any (seat := _) (amount := y) (now := 0) h24 hkt).mono ?_
          rintro e w5 ⟨rfl, h25, hg5⟩
          rw [HTL.out] at h25 ⊢
          have hb5 := hb4.grown hg5 hb4.size (fun k hk => by cases hk; exact hle2)
          have hq5 := hq4.keep hg5 (fun e => by have := Option.some.inj e; omega) (HSO.out g2 hgg)
          go_wp2_with fail
          go_roundw
          case rel => exact ⟨i + 1, by simp, by omega, hq5, h25, hb5⟩
          case measure => simp [intOf]; omega
      · have hie : i = l.length := by rw [HL.out]; omega
        subst hie
        have hm9 : l.length ≤ 8 := by rw [HL.out]; exact hm8
        have hka : (fillF l due l.length).Ok := fillF_ok hk (Nat.le_refl _)
        rw [fillF_all] at hq hka
        rw [turnF_all back fi l due hm9] at h2
        have hph : phaseF ⟨l, due, List.replicate l.length true⟩ 0 = 1 := by unfold phaseF fullF; rw [if_pos (by simp)]
        have HPH := hide hph
        have h : FundP wr W0.heap.size g ⟨l, due, List.replicate l.length true⟩ := ⟨_, _, hq⟩
        clear hph hq hm9 hm8 hk nI8
        generalize (⟨l, due, List.replicate l.length true⟩ : FundX) = F at *
        go_wp2_with fail
        refine (same_yes h h2 hka).mono ?_
        rintro e w4 ⟨rfl, hb4⟩
        have h := h.below hb4
        have hb := below_trans hb hb4
        go_wp2_with fail
        refine (phase_any (now := 0) h hka).mono ?_
        rintro e w5 ⟨rfl, hb6⟩
        rw [HPH.out]
        have hb := below_trans hb hb6
        go_wp2_with fail
        refine (told_any _).mono ?_
        rintro e w6 ⟨rfl, hb7⟩
        go_wp2_with fail
        go_ret
        exact ⟨rfl, below_trans hb0 (below_trans hb hb7)⟩
  · have hne : (newFErr l due != 0) = true := by simpa using hE
    have HE := hide hE
    clear hE
    go_wp2_with fail
    refine (fundnew_no hR0 HNN.out HE.out).mono ?_
    rintro e w2 ⟨rfl, rfl⟩
    go_wp2_with fail
    refine (fundnew_no hR0 HNN.out HE.out).mono ?_
    rintro e w2 ⟨rfl, rfl⟩
    go_wp2_with fail
    refine (told_any _).mono ?_
    rintro e w4 ⟨rfl, hb4⟩
    go_wp2_with fail
    go_ret
    exact ⟨rfl, below_trans hb0 hb4⟩

theorem fturn_walk : LawWalk 4 Try.f4.params.toList := by
  intro W args h
  obtain ⟨v0, v1, v2, rfl, h0, h1, h2⟩ := argsOk3 h
  obtain ⟨ao, n, c, l, due, rfl, hR, _, hn, _⟩ := one_start h0
  obtain ⟨fi, rfl, hfi⟩ := one_u8 Try.underlying5 h1
  obtain ⟨b, rfl⟩ := one_bool Try.underlying4 h2
  exact fturn_any hR hn hfi

set_option maxRecDepth 100000 in
theorem fundTurn_lifted (os : Os) (started : os.Started) (H : Type) (enc : TypeId × Value → H) :
    ReturnsInHanded {} Try.checked os 4 .any (Rows.fundTurnSpec.pre6 enc Try.prog Try.f4 Rows.fundTurnRow.domain false) (Rows.fundTurnSpec.post enc Try.prog Try.f4 false true false false) :=
  law_lifted Try.func4 rfl rfl (by decide +kernel) (fun H ds h => by match ds, h with | [_, _, _], _ => rfl) (by kernel_rfl) os started H enc
    (ChangeSpec.witness6 (enc := enc) (C := Try.checked) false ⟨#[], #[.agg #[.slice none 0 0, .int .i64 0], .int .u8 0, .bool false], []⟩ 8 (by kernel_rfl) (by kernel_rfl) (by kernel_rfl) (by kernel_rfl)) fturn_walk

theorem fundTurn_proved : Rows.FundTurnSaid :=
  OpenClaim.holds_of_wide 4 Try.f4 rfl rfl rfl rfl rfl rfl rfl ⟨rfl, rfl, rfl, rfl, rfl⟩ rfl rfl rfl rfl rfl (by kernel_rfl) Try.func4 (by kernel_rfl)
    (of_decide_eq_true (by kernel_rfl)) (by unfold Func.isWrapper; first | (rw [if_pos (by decide +kernel)]; kernel_rfl) | (rw [if_neg (by decide +kernel)]; exact ⟨rfl, rfl⟩))
    (fun os started H enc _ => fundTurn_lifted os started H enc)
#print axioms fundTurn_proved
end Go.Proofs.Ytoeoneiopcagfaa
