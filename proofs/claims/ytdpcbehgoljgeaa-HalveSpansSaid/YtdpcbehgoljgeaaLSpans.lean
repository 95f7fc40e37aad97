/- HalveSpans: a span is within all steps, of a power of two of them, from a place that it divides; the digests at both ends were told. -/
import Derived.Test.YtdpcbehgoljgeaaWas
namespace Go.Proofs.Ytdpcbehgoljgeaa
open Go.RowKit

set_option maxRecDepth 100000 in
set_option maxHeartbeats 4000000 in
theorem spans_any {dp : Nat} {ao : Option Addr} {n c : Nat} {l : List DeedX} {w : World} (hdp : dp < 256) (hR : RdS deedE w ao n c l) (hG : ∀ x ∈ l, x.what < 256) (hn : n ≤ 140737488351232) :
    Calls Try.prog 4 #[.int .u8 dp, .slice ao n c] w fun e w' => e = .returned (.bool true) ∧ Below w.heap.size w w' := by
  have d0 : #[Value.int .u8 0, .int .u8 0, .int .u8 0, .int .u8 0, .int .u8 0, .int .u8 0, .int .u8 0, .int .u8 0] = digC dig0 := rfl
  have d1 : (digC dig0).setIfInBounds 0 (.int .u8 1) = digC (dig1 1) := rfl
  have d2 : (digC dig0).setIfInBounds 0 (.int .u8 2) = digC (dig1 2) := rfl
  have d3 : (digC dig0).setIfInBounds 0 (.int .u8 3) = digC (dig1 3) := rfl
  obtain ⟨k, hk, hk2⟩ : ∃ k : Nat, (dp : Int) % 21 = k ∧ (k : Int) ≤ 20 := ⟨dp % 21, by omega, by omega⟩
  have HG := hide hG
  clear hG
  go_enter Try.func4, Try.ntmps4
  go_wp2_with fail
  refine (new_any (p := dig1 1) (a := dig1 2) (b := dig1 3) (size := 7) (k := k) (by omega) (by omega) hk2).mono ?_
  rintro e w1 ⟨g, rfl, hT0, hb⟩
  clear d1
  have hlt := hT0.lt
  have hle := hT0.le
  by_cases hn1 : n ≤ 60
  · have t1 : (n : Int) ≤ 60 := by omega
    go_upto_region 7 with fail
    go_loopw [8, 9] (fun v8 v9 wr => ∃ (i k1 c1 : Nat) (a1 : Option Addr) (l1 : List Dig) (t : Tri), v8 = .slice a1 k1 c1 ∧ v9 = .int .i64 i ∧ i ≤ n ∧ k1 ≤ i + 2 ∧ SInv k t l1 ∧ OwnS digE wr w1.heap.size a1 k1 c1 l1 ∧ TriP wr w.heap.size g t ∧ Below w.heap.size w wr ∧ w1.heap.size ≤ wr.heap.size) (fun _ v9 _ => n - (intOf v9).toNat)
    case atStart =>
      refine ⟨0, 2, 2, _, [dig1 2, dig1 3], _, rfl, rfl, Nat.zero_le _, by omega, SInv.start _ _ _ _ _, own_two _ _ _ ?_, hT0.below (below_alloc w1 _), below_trans hb (below_alloc w1 _), (below_alloc w1 _).size⟩
      rfl
    case round =>
      obtain ⟨i, k1, c1, a1, l1, t, rfl, rfl, hin, hk1, hS, ho, ht, hW, hsz⟩ := hrel
      obtain ⟨wl, rfl⟩ : ∃ wl : World, wl = wr := ⟨_, rfl⟩
      by_cases hlt2 : i < n
      · obtain ⟨x, hx⟩ : ∃ x, l[i]? = some x := ⟨l[i]'(by rw [hR.len]; exact hlt2), List.getElem?_eq_getElem _⟩
        have hRl := hR.below hW
        obtain ⟨b, o, rfl, _⟩ := hRl.cell deedE_ok hx (j := 0) rfl
        obtain ⟨cW, rD, cF⟩ := deed_at hRl hx
        obtain ⟨r, hr, hr3⟩ : ∃ r : Nat, (x.what : Int) % 4 = r ∧ r ≤ 3 := ⟨x.what % 4, by omega, by omega⟩
        have HF := hide (hS.facts (by omega))
        have hst : t.steps ≤ 4294967296 ∧ t.fro ≤ 4294967296 := by
          obtain ⟨f1, _, _, f4, f5, _, _⟩ := HF.out
          omega
        have HST := hide hst
        clear hst
        go_upto_block 2 with fail
        go_cut [8] from 56 to 83 (fun v8 wr => ∃ (k2 c2 : Nat) (a2 : Option Addr) (l2 : List Dig) (t' : Tri), v8 = .slice a2 k2 c2 ∧ k2 ≤ i + 3 ∧ SInv k t' l2 ∧ OwnS digE wr w1.heap.size a2 k2 c2 l2 ∧ TriP wr w.heap.size g t' ∧ Below w.heap.size w wr ∧ w1.heap.size ≤ wr.heap.size)
        case first =>
          rcases (show r = 0 ∨ r = 1 ∨ (r = 2 ∨ r = 3) by omega) with rfl | rfl | hr23
          · go_wp2_with (refine wl_load' rD rfl _ rfl rfl ?_)
            refine (tell_any (d := x.d) ht).mono ?_
            rintro e w5 ⟨rfl, ht5, hg5⟩
            have hS5 := hS.tell x.d
            have hW5 := hW.grown hg5 hW.size (fun k hk => by cases hk; exact ht5.le)
            have ho5 := ho.grown hg5 (ho.apart hlt)
            have hz5 := Nat.le_trans hsz hg5.size
            have hR5 := hR.below hW5
            obtain ⟨cW5, rD5, cF5⟩ := deed_at hR5 hx
            clear cW rD cF hW ho ht hS hRl
            have hcase : (tellF t x.d).2 = 0 ∨ (((tellF t x.d).2 : Int) == 0) = false := by
              by_cases h0 : (tellF t x.d).2 = 0
              · exact .inl h0
              · exact .inr (by simpa using h0)
            rcases hcase with u1 | u1
            · rw [if_pos u1] at hS5
              have u2 : ((tellF t x.d).2 : Int) = 0 := by omega
              clear u1
              have z1 : (k1 + 1) * 8 ≤ 140737488355328 := by omega
              have z2 : k1 + 1 ≤ maxLen := by unfold maxLen; omega
              have Z1 := hide z1
              have Z2 := hide z2
              clear z1 z2
              go_wp2_with (first | refine wl_load' rD5 rfl _ rfl rfl ?_ | (at_builtin; refine wpList_app1 digE_ok sTD rfl (.tmp 67) (.tmp 73) rfl rfl ho5 x.d rfl (build_one rfl x.d) Z1.out Z2.out hz5 ?_; intro ao' c' w' ho' hg hne))
              go_meet
              case rel => exact ⟨k1 + 1, c', ao', l1 ++ [x.d], _, rfl, by omega, hS5, ho', ht5.keep hg (ho5.apart' hlt), hW5.grown hg hW5.size (fun k hk => by have := (ho5.own.lt k hk).1; omega), Nat.le_trans hz5 hg.size⟩
            · have u2 : ¬ (tellF t x.d).2 = 0 := by simpa using u1
              rw [if_neg u2] at hS5
              clear u2
              go_wp2_with fail
              go_meet
              case rel => exact ⟨k1, c1, a1, l1, _, rfl, by omega, hS5, ho5, ht5, hW5, hz5⟩
          · go_wp2_with fail
            refine (choose_any (f := x.first) ht (by have := HST.out.1; omega) (by have := HST.out.2; omega)).mono ?_
            rintro e w5 ⟨rfl, ht5, hg5⟩
            go_wp2_with fail
            go_meet
            case rel => exact ⟨k1, c1, a1, l1, _, rfl, by omega, hS.choose x.first, ho.grown hg5 (ho.apart hlt), ht5, hW.grown hg5 hW.size (fun k hk => by cases hk; exact ht5.le), Nat.le_trans hsz hg5.size⟩
          · have v1 : ((r : Int) == 0) = false := by simp; omega
            have v2 : ((r : Int) == 1) = false := by simp; omega
            go_wp2_with fail
            go_meet
            case rel => exact ⟨k1, c1, a1, l1, t, rfl, by omega, hS, ho, ht, hW, hsz⟩
        case rest =>
          clear rD cF cW hRl ho hS hW ht hsz HF HST
          obtain ⟨k2, c2, a2, l2, t', rfl, hk2', hS, ho, ht, hW, hsz⟩ := hcut
          obtain ⟨f1, f2, f3, f4, f5, f6, f7⟩ := hS.facts (by omega)
          have hw := wrap_pow (k := k) (by omega)
          go_wp2_with fail
          refine (span_any ht).mono ?_
          rintro e w6 ⟨rfl, hb6⟩
          obtain ⟨W1, W2, W3, e1, e2, e3, s1, s2, hb7, r1, r2⟩ := two_named w6 t'.ahead t'.behind
          have hb8 := below_trans hb6 hb7
          have ht := ht.below hb8
          have ho := ho.below hb8
          have hW := below_trans hW hb8
          have hsz := Nat.le_trans hsz hb8.size
          rw [spanV]
          go_upto_region 16 with (first | (refine wl_store t'.ahead s1 rfl _ _ rfl rfl rfl ?_; rw [e2]) | (refine wl_store t'.behind s2 rfl _ _ rfl rfl rfl ?_; rw [e3]))
          clear e1 e2 e3 s1 s2 hb6 hb7 hb8
          obtain ⟨st, hst⟩ : ∃ st : Int, (t'.steps : Int) = st := ⟨_, rfl⟩
          obtain ⟨fr, hfr⟩ : ∃ fr : Int, (t'.fro : Int) = fr := ⟨_, rfl⟩
          have f8 : (0 : Int) ≤ fr := by omega
          rw [hst] at f1 f2 f3 f4 ⊢
          rw [hfr] at f3 f4 ⊢
          have HST := hide hst
          have HFR := hide hfr
          have t2 : (bits .and .i64 st (st - 1) != 0) = false := by rw [f2]; rfl
          have t3 : (fr % st != 0) = false := by rw [f3]; rfl
          have t4 : ¬ st = 0 := by omega
          obtain ⟨pk, hpk⟩ : ∃ pk : Int, (2 : Int) ^ k = pk := ⟨_, rfl⟩
          rw [hpk] at f4 f5
          have f9 : fr + st ≤ wrap64 ((2 : Int) ^ k) := by rw [hw.trans hpk]; exact f4
          have f10 : fr + st ≤ 1048576 := by omega
          clear hw f4 f5
          have HPK := hide hpk
          clear hst hfr f2 f3 hpk
          obtain ⟨a0, a1', a2', a3, a4, a5, a6, a7, ha⟩ := dig_ex t'.ahead
          obtain ⟨b0, b1, b2, b3, b4, b5, b6, b7, hb⟩ := dig_ex t'.behind
          rw [ha] at r1 f6
          rw [hb] at r2 f7
          have ca0 := r1 0 _ rfl
          have ca1 := r1 1 _ rfl
          have ca2 := r1 2 _ rfl
          have ca3 := r1 3 _ rfl
          have ca4 := r1 4 _ rfl
          have ca5 := r1 5 _ rfl
          have ca6 := r1 6 _ rfl
          have ca7 := r1 7 _ rfl
          simp only [Nat.reduceAdd, Extern.Stop.cell] at ca0 ca1 ca2 ca3 ca4 ca5 ca6 ca7
          have HA := hide ha
          have HB := hide hb
          clear r1 ha hb
          go_wp2_with fail
          refine (was_any (d := ⟨[a0, a1', a2', a3, a4, a5, a6, a7], rfl⟩) ho.rd (by omega) f6).mono ?_
          rintro e w8 ⟨rfl, hb9⟩
          clear ca0 ca1 ca2 ca3 ca4 ca5 ca6 ca7
          have r3 : w8.rangeAt (w6.heap.size + 1) 0 (digL ⟨[b0, b1, b2, b3, b4, b5, b6, b7], rfl⟩) := fun j v hv => by
            have := r2 j v hv
            rw [hb9.cell (World.block_lt_of_cell? _ _ this)]
            exact this
          have ho := ho.below hb9
          have ht := ht.below hb9
          have hW := below_trans hW hb9
          have hsz := Nat.le_trans hsz hb9.size
          have cb0 := r3 0 _ rfl
          have cb1 := r3 1 _ rfl
          have cb2 := r3 2 _ rfl
          have cb3 := r3 3 _ rfl
          have cb4 := r3 4 _ rfl
          have cb5 := r3 5 _ rfl
          have cb6 := r3 6 _ rfl
          have cb7 := r3 7 _ rfl
          simp only [Nat.reduceAdd, Extern.Stop.cell] at cb0 cb1 cb2 cb3 cb4 cb5 cb6 cb7
          clear r2 r3
          go_wp2_with fail
          refine (was_any (d := ⟨[b0, b1, b2, b3, b4, b5, b6, b7], rfl⟩) ho.rd (by omega) f7).mono ?_
          rintro e w9 ⟨rfl, hb10⟩
          have ho := ho.below hb10
          have ht := ht.below hb10
          have hW := below_trans hW hb10
          have hsz := Nat.le_trans hsz hb10.size
          go_wp2_with fail
          all_goals
            first
            | (exfalso
               rename_i hh
               rcases hh with (hh | hh) | hh
               · exact absurd f1 (Int.not_le.2 hh)
               · exact absurd f8 (Int.not_le.2 hh)
               · exact absurd f9 (Int.not_le.2 hh))
            | (go_roundw
               case rel => exact ⟨i + 1, k2, c2, a2, l2, t', rfl, by simp, by omega, by omega, hS, ho, ht, hW, hsz⟩
               case measure => simp [intOf]; omega)
      · go_wp2_with fail
        refine (told_any _).mono ?_
        rintro e w4 ⟨rfl, hb4⟩
        go_wp2_with fail
        go_ret
        exact ⟨rfl, below_trans hW hb4⟩
  · have t1 : (60 : Int) < (n : Int) := by omega
    go_wp2_with fail
    refine (told_any _).mono ?_
    rintro e w2 ⟨rfl, hb2⟩
    go_wp2_with fail
    go_ret
    exact ⟨rfl, below_trans hb hb2⟩

theorem spans_walk : LawWalk 4 Try.f4.params.toList := by
  intro W args h
  obtain ⟨v0, v1, rfl, h0, h1⟩ := argsOk2 h
  obtain ⟨z, rfl, hz⟩ := one_u8 Try.underlying5 h0
  obtain ⟨ao, n, c, l, rfl, hR, hG, hn⟩ := one_deeds h1
  exact spans_any hz hR hG hn

set_option maxRecDepth 100000 in
theorem halveSpans_lifted (os : Os) (started : os.Started) (H : Type) (enc : TypeId × Value → H) :
    ReturnsInHanded {} Try.checked os 4 .any (Rows.halveSpansSpec.pre6 enc Try.prog Try.f4 Rows.halveSpansRow.domain false) (Rows.halveSpansSpec.post enc Try.prog Try.f4 false true false false) :=
  law_lifted Try.func4 rfl rfl (by decide +kernel) (fun H ds h => by match ds, h with | [_, _], _ => rfl) (by kernel_rfl) os started H enc
    (ChangeSpec.witness6 (enc := enc) (C := Try.checked) false ⟨#[], #[.int .u8 0, .slice none 0 0], []⟩ 8 (by kernel_rfl) (by kernel_rfl) (by kernel_rfl) (by kernel_rfl)) spans_walk

theorem halveSpans_proved : Rows.HalveSpansSaid :=
  OpenClaim.holds_of_wide 4 Try.f4 rfl rfl rfl rfl rfl rfl rfl ⟨rfl, rfl, rfl, rfl, rfl⟩ rfl rfl rfl rfl rfl (by kernel_rfl) Try.func4 (by kernel_rfl)
    (of_decide_eq_true (by kernel_rfl)) (by unfold Func.isWrapper; first | (rw [if_pos (by decide +kernel)]; kernel_rfl) | (rw [if_neg (by decide +kernel)]; exact ⟨rfl, rfl⟩))
    (fun os started H enc _ => halveSpans_lifted os started H enc)
#print axioms halveSpans_proved
end Go.Proofs.Ytdpcbehgoljgeaa
