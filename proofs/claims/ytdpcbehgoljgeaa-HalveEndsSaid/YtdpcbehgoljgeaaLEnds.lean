/- HalveEnds: it is over behind 2 depth and 1 deeds at most. -/
import Derived.Test.YtdpcbehgoljgeaaHalF
import Derived.Test.YtdpcbehgoljgeaaHalG
import Derived.Test.YtdpcbehgoljgeaaHalP
namespace Go.Proofs.Ytdpcbehgoljgeaa
open Go.RowKit

set_option maxRecDepth 100000 in
set_option maxHeartbeats 4000000 in
theorem ends_any {dp : Nat} {ao : Option Addr} {n c : Nat} {l : List DeedX} {w : World} (hdp : dp < 256) (hR : RdS deedE w ao n c l) (hG : ∀ x ∈ l, x.what < 256) (hn : n ≤ 140737488351232) :
    Calls Try.prog 3 #[.int .u8 dp, .slice ao n c] w fun e w' => e = .returned (.bool true) ∧ Below w.heap.size w w' := by
  have d0 : #[Value.int .u8 0, .int .u8 0, .int .u8 0, .int .u8 0, .int .u8 0, .int .u8 0, .int .u8 0, .int .u8 0] = digC dig0 := rfl
  have d1 : (digC dig0).setIfInBounds 0 (.int .u8 1) = digC (dig1 1) := rfl
  have d2 : (digC dig0).setIfInBounds 0 (.int .u8 2) = digC (dig1 2) := rfl
  have d3 : (digC dig0).setIfInBounds 0 (.int .u8 3) = digC (dig1 3) := rfl
  obtain ⟨k, hk, hk2⟩ : ∃ k : Nat, (dp : Int) % 21 = k ∧ (k : Int) ≤ 20 := ⟨dp % 21, by omega, by omega⟩
  have HG := hide hG
  clear hG
  go_enter Try.func3, Try.ntmps3
  go_wp2_with fail
  refine (new_any (p := dig1 1) (a := dig1 2) (b := dig1 3) (size := 7) (k := k) (by omega) (by omega) hk2).mono ?_
  rintro e w1 ⟨g, rfl, h, hb⟩
  clear d1 d2 d3
  have hlt := h.lt
  have hle := h.le
  by_cases hn1 : n ≤ 100
  · have t1 : (n : Int) ≤ 100 := by omega
    go_upto_region 7 with fail
    go_loopw [8, 9] (fun v8 v9 wr => ∃ (i m : Nat) (t : Tri), v8 = .int .i64 m ∧ v9 = .int .i64 i ∧ i ≤ n ∧ EInv k t m ∧ TriP wr w.heap.size g t ∧ Below w.heap.size w wr) (fun _ v9 _ => n - (intOf v9).toNat)
    case atStart => exact ⟨0, 0, _, rfl, rfl, Nat.zero_le _, EInv.start _ _ _ _ _, h, hb⟩
    case round =>
      obtain ⟨i, m, t, rfl, rfl, hin, hE, ht, hW⟩ := hrel
      obtain ⟨wl, rfl⟩ : ∃ wl : World, wl = wr := ⟨_, rfl⟩
      by_cases hlt2 : i < n
      · obtain ⟨x, hx⟩ : ∃ x, l[i]? = some x := ⟨l[i]'(by rw [hR.len]; exact hlt2), List.getElem?_eq_getElem _⟩
        have hRl := hR.below hW
        obtain ⟨b, o, rfl, _⟩ := hRl.cell deedE_ok hx (j := 0) rfl
        go_wp2_with fail
        refine (span_any ht).mono ?_
        rintro e w2 ⟨rfl, hb2⟩
        obtain ⟨W1, W2, W3, e1, e2, e3, s1, s2, hb3, r1, r2⟩ := two_named w2 t.ahead t.behind
        clear r1 r2
        have hb4 := below_trans hb2 hb3
        have ht := ht.below hb4
        have hR3 := hRl.below hb4
        have hW := below_trans hW hb4
        rw [spanV]
        obtain ⟨cW, rD, cF⟩ := deed_at hR3 hx
        obtain ⟨r, hr, hr3⟩ : ∃ r : Nat, (x.what : Int) % 4 = r ∧ r ≤ 3 := ⟨x.what % 4, by omega, by omega⟩
        go_upto_block 2 with (first | (refine wl_store t.ahead s1 rfl _ _ rfl rfl rfl ?_; rw [e2]) | (refine wl_store t.behind s2 rfl _ _ rfl rfl rfl ?_; rw [e3]))
        clear e1 e2 e3 s1 s2
        have hsm := hE.small
        have hp20 : 2 ^ k ≤ 2 ^ 20 := Nat.pow_le_pow_right (by omega) (by omega)
        have HB := hide (show (t.steps : Int) ≤ 4294967296 ∧ (t.fro : Int) ≤ 4294967296 by omega)
        have HS := hide hsm
        clear hsm hp20
        go_cut [14] from 67 to 89 (fun v wr => ∃ (t' : Tri) (f : Nat), v = .int .i64 f ∧ TriP wr w.heap.size g t' ∧ Below w.heap.size w wr ∧ EInv k t' (if f = 0 then m + 1 else m) ∧ (if r = 1 ∧ f = 0 then t'.steps = t.steps / 2 ∧ 1 < t.steps else t'.steps = t.steps))
        case first =>
          rcases (show r = 0 ∨ r = 1 ∨ r = 2 ∨ r = 3 by omega) with rfl | rfl | rfl | rfl
          · go_wp2_with (refine wl_load' rD rfl _ rfl rfl ?_)
            refine (tell_any (d := x.d) ht).mono ?_
            rintro e w5 ⟨rfl, ht5, hg5⟩
            go_wp2_with fail
            go_meet
            case rel => exact ⟨_, _, rfl, ht5, hW.grown hg5 hW.size (fun k hk => by cases hk; exact ht5.le), (hE.tell x.d).1, by simpa using (hE.tell x.d).2⟩
          · go_wp2_with fail
            refine (choose_any (f := x.first) ht HB.out.1 HB.out.2).mono ?_
            rintro e w5 ⟨rfl, ht5, hg5⟩
            go_wp2_with fail
            go_meet
            case rel =>
              refine ⟨_, _, rfl, ht5, hW.grown hg5 hW.size (fun k hk => by cases hk; exact ht5.le), (hE.choose x.first).1, ?_⟩
              by_cases hf : (chooseF t x.first).2 = 0
              · have h2 := (hE.choose x.first).2.1 hf
                simp [hf, h2]
              · have h2 := (hE.choose x.first).2.2 hf
                simp [hf, h2]
          · go_wp2_with fail
            go_meet
            case rel => exact ⟨t, 10, rfl, ht, hW, hE, by simp⟩
          · go_wp2_with fail
            refine (silence_any ht).mono ?_
            rintro e w5 ⟨rfl, ht5, hg5⟩
            go_wp2_with fail
            go_meet
            case rel => exact ⟨_, _, rfl, ht5, hW.grown hg5 hW.size (fun k hk => by cases hk; exact ht5.le), hE.silence.1, by simpa using hE.silence.2⟩
        case rest =>
          clear rD cF cW hb2 hb3 hb4 hRl hR3 hE hW ht
          obtain ⟨t', f, rfl, ht, hW, hE, hst⟩ := hcut
          obtain ⟨m', hm', hm2⟩ : ∃ m' : Nat, m' = (if f = 0 then m + 1 else m) ∧
              ((((f : Int) == 0) = true ∧ (((r : Int) == 1) = true ∧ ((t'.steps : Int) == (t.steps : Int) / 2) = true ∧ (1 : Int) < t.steps) ∧ (m : Int) + 1 = m') ∨
               (((f : Int) == 0) = true ∧ (((r : Int) == 1) = false ∧ ((t'.steps : Int) == (t.steps : Int) / 2) = false ∧ True) ∧ (m : Int) + 1 = m') ∨
               (((f : Int) == 0) = false ∧ (True ∧ ((t'.steps : Int) == (t.steps : Int) / 2) = false ∧ True) ∧ (m : Int) = m')) := by
            have h1 := HS.out.2.1
            by_cases hf : f = 0
            · by_cases h2 : r = 1
              · rw [if_pos ⟨h2, hf⟩] at hst
                exact ⟨m + 1, by rw [if_pos hf], .inl ⟨by simp [hf], ⟨by simp [h2], by simp; omega, by omega⟩, by simp⟩⟩
              · rw [if_neg (fun h => h2 h.1)] at hst
                exact ⟨m + 1, by rw [if_pos hf], .inr (.inl ⟨by simp [hf], ⟨by simp; omega, by simp; omega, trivial⟩, by simp⟩)⟩
            · rw [if_neg (fun h => hf h.2)] at hst
              exact ⟨m, by rw [if_neg hf], .inr (.inr ⟨by simpa using hf, ⟨trivial, by simp; omega, trivial⟩, rfl⟩)⟩
          rw [← hm'] at hE
          clear hm' hst
          have hst4 : (t.steps : Int) ≤ 4294967296 := HB.out.1
          have hst5 : wrap64 ((t.steps : Int) / 2) = (t.steps : Int) / 2 := by go_arith
          have hsm2 : (m' : Int) ≤ 2 * (k : Int) + 1 := by have := hE.small.1; omega
          rcases hm2 with ⟨tf, ⟨ta, tb, tc⟩, tm⟩ | ⟨tf, ⟨ta, tb, tc⟩, tm⟩ | ⟨tf, ⟨ta, tb, tc⟩, tm⟩
          all_goals
            have HM := hide tm
            go_wp2_with fail
            refine (span_any ht).mono ?_
            rintro e w6 ⟨rfl, hb6⟩
            obtain ⟨W1, W2, W3, e1, e2, e3, s1, s2, hb7, r1, r2⟩ := two_named w6 t'.ahead t'.behind
            clear r1 r2
            have hb8 := below_trans hb6 hb7
            have ht := ht.below hb8
            have hR3 := (hR.below hW).below hb8
            have hW := below_trans hW hb8
            obtain ⟨cW, rD, cF⟩ := deed_at hR3 hx
            rw [spanV]
            go_wp2_with (first | (refine wl_store t'.ahead s1 rfl _ _ rfl rfl rfl ?_; rw [e2]) | (refine wl_store t'.behind s2 rfl _ _ rfl rfl rfl ?_; rw [e3]))
            go_roundw
            case rel => exact ⟨i + 1, m', t', by first | (rw [← tm]) | rfl, by simp, by omega, hE, ht, hW⟩
            case measure => simp [intOf]; omega
      · go_wp2_with fail
        refine (winner_any ht).mono ?_
        rintro e w3 ⟨rfl, rfl⟩
        have hcase : ((m : Int) < 2 * (k : Int) + 1) ∨ (2 * (k : Int) + 1 ≤ (m : Int) ∧ (t.won != -1) = true) := by
          have hsm := hE.small.2.2.2.2
          by_cases h : 2 * k + 1 ≤ m
          · right; exact ⟨by omega, by simpa using hsm h⟩
          · left; omega
        rcases hcase with u1 | ⟨u1, u2⟩
        all_goals
          go_wp2_with fail
          refine (told_any _).mono ?_
          rintro e w4 ⟨rfl, hb4⟩
          go_wp2_with fail
          go_ret
          exact ⟨rfl, below_trans hW hb4⟩
  · have t1 : (100 : Int) < (n : Int) := by omega
    go_wp2_with fail
    refine (told_any _).mono ?_
    rintro e w2 ⟨rfl, hb2⟩
    go_wp2_with fail
    go_ret
    exact ⟨rfl, below_trans hb hb2⟩

theorem ends_walk : LawWalk 3 Try.f3.params.toList := by
  intro W args h
  obtain ⟨v0, v1, rfl, h0, h1⟩ := argsOk2 h
  obtain ⟨z, rfl, hz⟩ := one_u8 Try.underlying5 h0
  obtain ⟨ao, n, c, l, rfl, hR, hG, hn⟩ := one_deeds h1
  exact ends_any hz hR hG hn

set_option maxRecDepth 100000 in
theorem halveEnds_lifted (os : Os) (started : os.Started) (H : Type) (enc : TypeId × Value → H) :
    ReturnsInHanded {} Try.checked os 3 .any (Rows.halveEndsSpec.pre6 enc Try.prog Try.f3 Rows.halveEndsRow.domain false) (Rows.halveEndsSpec.post enc Try.prog Try.f3 false true false false) :=
  law_lifted Try.func3 rfl rfl (by decide +kernel) (fun H ds h => by match ds, h with | [_, _], _ => rfl) (by kernel_rfl) os started H enc
    (ChangeSpec.witness6 (enc := enc) (C := Try.checked) false ⟨#[], #[.int .u8 0, .slice none 0 0], []⟩ 8 (by kernel_rfl) (by kernel_rfl) (by kernel_rfl) (by kernel_rfl)) ends_walk

theorem halveEnds_proved : Rows.HalveEndsSaid :=
  OpenClaim.holds_of_wide 3 Try.f3 rfl rfl rfl rfl rfl rfl rfl ⟨rfl, rfl, rfl, rfl, rfl⟩ rfl rfl rfl rfl rfl (by kernel_rfl) Try.func3 (by kernel_rfl)
    (of_decide_eq_true (by kernel_rfl)) (by unfold Func.isWrapper; first | (rw [if_pos (by decide +kernel)]; kernel_rfl) | (rw [if_neg (by decide +kernel)]; exact ⟨rfl, rfl⟩))
    (fun os started H enc _ => halveEnds_lifted os started H enc)
#print axioms halveEnds_proved
end Go.Proofs.Ytdpcbehgoljgeaa
