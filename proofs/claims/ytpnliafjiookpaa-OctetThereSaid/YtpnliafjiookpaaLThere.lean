/- OctetThere: numbers and bytes that are put, one behind the other, are read as they were, and nothing is left. -/
import Derived.Test.YtpnliafjiookpaaThA
import Derived.Deep.RegionHeld3
namespace Go.Proofs.Ytpnliafjiookpaa
open Go.RowKit

set_option maxRecDepth 100000 in
set_option maxHeartbeats 8000000 in
theorem there_any {ao bo so : Option Addr} {n c m d q e : Nat} {l : List Nat} {ks : List Int} {ss : List ByteArray} {w : World} (hL : RdS u64E w ao n c l) (hK : RdS i64E w bo m d ks) (hS : RdS strE w so q e ss)
    (hl : ∀ x ∈ l, U64 x) (hk : ∀ x ∈ ks, I64 x) (hs : ∀ x ∈ ss, x.size ≤ maxLen) (hn : n ≤ 140737488351232) (hm : m ≤ 140737488351232) (hq : q ≤ 140737488351232) :
    Calls Try.prog 11 #[.slice ao n c, .slice bo m d, .slice so q e] w fun e w' => e = .returned (.bool true) ∧ Below w.heap.size w w' := by
  have hc1 := hL.cap
  have hc2 := hK.cap
  have hc3 := hS.cap
  go_enter Try.func11, Try.ntmps11
  go_wp2_with fail
  go_quiet (fail)
  obtain ⟨n1, e1, q1, p1⟩ := cut_is n 20 (by omega)
  obtain ⟨m1, e2, q2, p2⟩ := cut_is m 20 (by omega)
  obtain ⟨r1, e3, q3, p3⟩ := cut_is q 20 (by omega)
  simp only [e1, e2, e3, Int.toNat_natCast]
  clear e1 e2 e3
  have hL := hL.take u64E_ok q1
  have hK := hK.take i64E_ok q2
  have hS := hS.take strE_ok q3
  have hl : ∀ x ∈ l.take n1, U64 x := fun x hx => hl x (List.mem_of_mem_take hx)
  have hk : ∀ x ∈ ks.take m1, I64 x := fun x hx => hk x (List.mem_of_mem_take hx)
  have hs : ∀ x ∈ ss.take r1, x.size ≤ maxLen := fun x hx => hs x (List.mem_of_mem_take hx)
  generalize l.take n1 = l at hL hl
  generalize ks.take m1 = ks at hK hk
  generalize ss.take r1 = ss at hS hs
  have hb0 : Below w.heap.size w (w.drewN nq) := below_drewN (Below.refl _ _) nq
  have HL := hide hl
  have HK := hide hk
  have HS := hide hs
  clear hl hk hs
  obtain ⟨w0, hw0⟩ : ∃ w0, w0 = w.drewN nq := ⟨_, rfl⟩
  rw [← hw0] at hb0 ⊢
  clear hw0
  go_wp2_with fail
  go_loopw [7, 8] (fun v7 v8 wr => ∃ (i k cc : Nat) (bo : Option Addr), v7 = .slice bo k cc ∧ v8 = .int .i64 i ∧ i ≤ n1 ∧ k ≤ 10 * i ∧ RdB wr bo k cc ((l.take i).flatMap num) ∧ Below w.heap.size w wr) (fun _ v8 _ => n1 - (intOf v8).toNat)
  case atStart => exact ⟨0, 0, 0, none, rfl, rfl, Nat.zero_le _, Nat.zero_le _, by simpa using nil_rd _, hb0⟩
  case round =>
    clear hb0
    obtain ⟨i, k, cc, bf, rfl, rfl, hin, hki, hB, hb⟩ := hrel
    by_cases hlt : i < n1
    · obtain ⟨x, hx, _, htk, hmem⟩ := hL.next hlt
      obtain ⟨b, o, rfl, c1⟩ := (hL.below hb).one u64E_ok rfl hx rfl
      have hU := HL.out x hmem
      have HT := hide htk
      have iI : (i : Int) < n1 := by omega
      clear hx htk hmem
      go_wp2_with fail
      refine (putNum_any hB (by omega) hU).mono ?_
      rintro e w1 ⟨a1, k1, cc1, rfl, ho, hb1, h1, h2⟩
      go_wp2_with fail
      go_roundw
      case rel => exact ⟨i + 1, k1, cc1, a1, rfl, by simp, by omega, by omega, by rw [HT.out, List.flatMap_append]; simpa using ho.rd, below_trans hb hb1⟩
      case measure => simp [intOf]; omega
    · have hii : i = n1 := by omega
      subst hii
      have hla : l.take i = l := List.take_of_length_le (by rw [hL.len]; exact Nat.le_refl _)
      rw [hla] at hB
      clear hla hlt
      go_wp2_with fail
      generalize hbl : l.flatMap num = A at hB
      go_loopw [7, 9] (fun v7 v9 wr => ∃ (j k cc : Nat) (bo : Option Addr), v7 = .slice bo k cc ∧ v9 = .int .i64 j ∧ j ≤ m1 ∧ k ≤ 200 + 10 * j ∧ RdB wr bo k cc (A ++ (ks.take j).flatMap (fun z => num (fold z))) ∧ Below w.heap.size w wr) (fun _ v9 _ => m1 - (intOf v9).toNat)
      case atStart => exact ⟨0, k, cc, bf, rfl, rfl, Nat.zero_le _, by omega, by simpa using hB, hb⟩
      case round =>
        clear hB hb hki
        obtain ⟨j, k, cc, bf, rfl, rfl, hjm, hki, hB, hb⟩ := hrel
        by_cases hlt : j < m1
        · obtain ⟨x, hx, _, htk, hmem⟩ := hK.next hlt
          obtain ⟨b, o, rfl, c1⟩ := (hK.below hb).one i64E_ok rfl hx rfl
          have hU := HK.out x hmem
          have HT := hide htk
          have iI : (j : Int) < m1 := by omega
          clear hx htk hmem
          go_wp2_with fail
          refine (putInt_any hB (by omega) hU).mono ?_
          rintro e w1 ⟨a1, k1, cc1, rfl, ho, hb1, h1, h2⟩
          go_wp2_with fail
          go_roundw
          case rel => exact ⟨j + 1, k1, cc1, a1, rfl, by simp, by omega, by omega, by rw [HT.out, List.flatMap_append, ← List.append_assoc]; simpa using ho.rd, below_trans hb hb1⟩
          case measure => simp [intOf]; omega
        · have hjj : j = m1 := by omega
          subst hjj
          have hla : ks.take j = ks := List.take_of_length_le (by rw [hK.len]; exact Nat.le_refl _)
          rw [hla] at hB
          clear hla hlt
          go_wp2_with fail
          generalize hbk : ks.flatMap (fun z => num (fold z)) = B at hB
          go_loopw [7, 10] (fun v7 v10 wr => ∃ (u k cc : Nat) (bo : Option Addr), v7 = .slice bo k cc ∧ v10 = .int .i64 u ∧ u ≤ r1 ∧ k ≤ 400 + 120 * u ∧ RdB wr bo k cc (A ++ B ++ (ss.take u).flatMap twice) ∧ Below w.heap.size w wr) (fun _ v10 _ => r1 - (intOf v10).toNat)
          case atStart => exact ⟨0, k, cc, bf, rfl, rfl, Nat.zero_le _, by omega, by simpa using hB, hb⟩
          case round =>
            clear hB hb hki
            obtain ⟨u, k, cc, bf, rfl, rfl, hur, hki, hB, hb⟩ := hrel
            by_cases hlt : u < r1
            · obtain ⟨s, hx, _, htk, hmem⟩ := hS.next hlt
              obtain ⟨b, o, rfl, c1⟩ := (hS.below hb).one strE_ok rfl hx rfl
              have hz : s.size ≤ 9223372036854775807 := HS.out s hmem
              have HT := hide htk
              have iI : (u : Int) < r1 := by omega
              clear hx htk hmem
              go_wp2_with fail
              go_quiet (fail)
              rw [cut_str s]
              obtain ⟨z1, ez, _, _⟩ := cut_is s.size 50 (by omega)
              simp only [ez]
              clear ez
              have hTl := strOf_list (cutS s)
              have hTs := strOf_size (cutS s)
              have hcl := cutS_len s
              have hB := hB.below (below_drewN (Below.refl wr.heap.size wr) nq)
              have hb := below_drewN hb nq
              generalize wr.drewN nq = W1 at *
              have htw : twice s = num (strOf (cutS s)).size ++ (strOf (cutS s)).data.toList ++ (num (strOf (cutS s)).size ++ (strOf (cutS s)).data.toList) := by rw [hTl, hTs]; rfl
              rw [← hTs] at hcl
              generalize strOf (cutS s) = T at *
              have HTW := hide htw
              clear hTl hTs htw c1
              have hbs := strW_below W1 T
              go_wp2_with fail
              refine (putBytes_any (hB.below hbs) (strW_rd W1 T) (by omega)).mono ?_
              rintro e w1 ⟨a1, k1, cc1, rfl, ho, hb1, h1, h2⟩
              go_wp2_with fail
              refine (putText_any (s := T) ho.rd (by omega)).mono ?_
              rintro e w2 ⟨a2, k2, cc2, rfl, ho2, hb2, h3, h4⟩
              go_wp2_with fail
              go_roundw
              case rel => exact ⟨u + 1, k2, cc2, a2, rfl, by simp, by omega, by omega, by rw [HT.out, List.flatMap_append, ← List.append_assoc]; simpa [HTW.out, List.append_assoc] using ho2.rd, below_trans (below_trans (below_trans hb hbs) hb1) hb2⟩
              case measure => simp [intOf]; omega
            · have huu : u = r1 := by omega
              subst huu
              have hla : ss.take u = ss := List.take_of_length_le (by rw [hS.len]; exact Nat.le_refl _)
              rw [hla] at hB
              clear hla hlt
              have hA0 : A = (l.drop 0).flatMap num := by rw [List.drop_zero]; exact hbl.symm
              have hK0 : B = (ks.drop 0).flatMap (fun z => num (fold z)) := by rw [List.drop_zero]; exact hbk.symm
              have HA0 := hide hA0
              have HK0 := hide hK0
              clear hbl hbk hA0 hK0
              go_wp2_with fail
              refine (newReader_any hB (by omega)).mono ?_
              rintro e w1 ⟨g, rfl, hr, hb1⟩
              have hbw := below_trans hb hb1
              have hwg : w.heap.size ≤ g := by have := hr.le; have := hb.size; omega
              rw [HA0.out, List.append_assoc] at hr
              clear hB
              have hNum : ∀ (x : Nat) (R : List UInt8), U64 x → numR x (num x ++ R, 0) = ((R, 0), x) := fun x R h => numR_put h (Nat.le_refl _) R
              have hInt : ∀ (z : Int) (R : List UInt8), I64 z → numR 18446744073709551615 (num (fold z) ++ R, 0) = ((R, 0), fold z) := fun z R h => numR_put (fold_u64 h) (by have := fold_u64 h; unfold U64 at this; omega) R
              have HNum := hide hNum
              have HInt := hide hInt
              generalize wr.heap.size = B0 at hr
              clear hNum hInt hb hb1
              go_wp2_with fail
              go_loopw [13] (fun v13 wq => ∃ x : Nat, v13 = .int .i64 x ∧ x ≤ i ∧ Rdr wq B0 g ((l.drop x).flatMap num ++ (B ++ ss.flatMap twice), 0) ∧ Below w.heap.size w wq) (fun v13 _ => i - (intOf v13).toNat)
              case atStart => exact ⟨0, rfl, Nat.zero_le _, hr, hbw⟩
              case round =>
                clear hr hbw
                obtain ⟨x, rfl, hxi, hr, hb⟩ := hrel
                by_cases hlt : x < i
                · obtain ⟨y, hy, hdr, _, hmem⟩ := hL.next hlt
                  have hU := HL.out y hmem
                  have hc : ∀ W, Below w.heap.size w W → ∃ b o, ao = some ⟨b, o, none⟩ ∧ W.cell? ⟨b, o + x, none⟩ = some (.int .u64 y) := fun W hW => (hL.below hW).one u64E_ok rfl hy rfl
                  obtain ⟨b, o, rfl, _⟩ := hc _ hb
                  have hcc : ∀ W, Below w.heap.size w W → W.cell? ⟨b, o + x, none⟩ = some (.int .u64 y) := fun W hW => by
                    obtain ⟨b', o', e, h⟩ := hc W hW
                    cases e
                    exact h
                  have HCC := hide hcc
                  have iI : (x : Int) < i := by omega
                  rw [hdr, List.flatMap_cons, List.append_assoc] at hr
                  have hbd := hb.drew
                  have hrd := hr.below (Below.refl wr.heap.size wr).drew
                  have t9 : ((y : Int) != (y : Int)) = false := by simp
                  clear hc hcc hy hdr hmem
                  go_wp2_with fail
                  go_region_held3 (fun w' : World => w'.cell? ⟨b, o + x, none⟩ = some (.int .u64 y)) (first | exact HCC.out _ hbd | exact HCC.out _ hb1) (first
                    | (go_at_call 23; refine (num_any (most := y) hrd hU).mono ?_; rintro e w1 ⟨rfl, hr1, hg1⟩; rw [HNum.out y _ hU] at hr1 ⊢; have hb1 := hbd.grown hg1 hbd.size (fun k hk => by cases hk; exact hwg)))
                  all_goals
                    go_wp2_with fail
                    go_roundw
                    case rel => exact ⟨x + 1, by simp, by omega, hr1, hb1⟩
                    case measure => simp [intOf]; omega
                · have hxx : l.drop x = [] := List.drop_of_length_le (by rw [hL.len]; omega)
                  rw [hxx, List.flatMap_nil, List.nil_append, HK0.out] at hr
                  clear hxx
                  go_wp2_with fail
                  go_loopw [14] (fun v14 wq => ∃ x : Nat, v14 = .int .i64 x ∧ x ≤ j ∧ Rdr wq B0 g ((ks.drop x).flatMap (fun z => num (fold z)) ++ ss.flatMap twice, 0) ∧ Below w.heap.size w wq) (fun v14 _ => j - (intOf v14).toNat)
                  case atStart => exact ⟨0, rfl, Nat.zero_le _, hr, hb⟩
                  case round =>
                    clear hr hb
                    obtain ⟨x, rfl, hxi, hr, hb⟩ := hrel
                    by_cases hlt : x < j
                    · obtain ⟨y, hy, hdr, _, hmem⟩ := hK.next hlt
                      have hU := HK.out y hmem
                      have hc : ∀ W, Below w.heap.size w W → ∃ b o, bo = some ⟨b, o, none⟩ ∧ W.cell? ⟨b, o + x, none⟩ = some (.int .i64 y) := fun W hW => (hK.below hW).one i64E_ok rfl hy rfl
                      obtain ⟨b, o, rfl, _⟩ := hc _ hb
                      have hcc : ∀ W, Below w.heap.size w W → W.cell? ⟨b, o + x, none⟩ = some (.int .i64 y) := fun W hW => by
                        obtain ⟨b', o', e, h⟩ := hc W hW
                        cases e
                        exact h
                      have HCC := hide hcc
                      have HUF := hide (unf_fold hU)
                      have iI : (x : Int) < j := by omega
                      rw [hdr, List.flatMap_cons, List.append_assoc] at hr
                      have hbd := hb.drew
                      have hrd := hr.below (Below.refl wr.heap.size wr).drew
                      have t9 : (y != y) = false := by simp
                      clear hc hcc hy hdr hmem
                      go_wp2_with fail
                      go_region_held3 (fun w' : World => w'.cell? ⟨b, o + x, none⟩ = some (.int .i64 y)) (first | exact HCC.out _ hbd | exact HCC.out _ hb1) (first
                        | (go_at_call 22; refine (int_any hrd).mono ?_; rintro e w1 ⟨rfl, hr1, hg1⟩; rw [HInt.out y _ hU] at hr1 ⊢; rw [HUF.out]; have hb1 := hbd.grown hg1 hbd.size (fun k hk => by cases hk; exact hwg)))
                      all_goals
                        go_wp2_with fail
                        go_roundw
                        case rel => exact ⟨x + 1, by simp, by omega, hr1, hb1⟩
                        case measure => simp [intOf]; omega
                    · have hxx : ks.drop x = [] := List.drop_of_length_le (by rw [hK.len]; omega)
                      rw [hxx, List.flatMap_nil, List.nil_append] at hr
                      have hS0 : ss = ss.drop 0 := List.drop_zero.symm
                      rw [hS0] at hr
                      clear hxx hS0
                      go_wp2_with fail
                      go_loopw [15] (fun v15 wq => ∃ x : Nat, v15 = .int .i64 x ∧ x ≤ u ∧ Rdr wq B0 g ((ss.drop x).flatMap twice, 0) ∧ Below w.heap.size w wq) (fun v15 _ => u - (intOf v15).toNat)
                      case atStart => exact ⟨0, rfl, Nat.zero_le _, hr, hb⟩
                      case round =>
                        clear hr hb
                        obtain ⟨x, rfl, hxi, hr, hb⟩ := hrel
                        by_cases hlt : x < u
                        · obtain ⟨s, hy, hdr, _, hmem⟩ := hS.next hlt
                          have hz : s.size ≤ 9223372036854775807 := HS.out s hmem
                          obtain ⟨b, o, rfl, c1⟩ := (hS.below hb).one strE_ok rfl hy rfl
                          have iI : (x : Int) < u := by omega
                          rw [hdr, List.flatMap_cons, show twice s = tx (cutS s) ++ tx (cutS s) from rfl, List.append_assoc] at hr
                          have hcl := cutS_len s
                          clear hy hdr hmem
                          go_wp2_with fail
                          go_quiet (fail)
                          rw [cut_str s]
                          obtain ⟨z1, ez, _, _⟩ := cut_is s.size 50 (by omega)
                          simp only [ez]
                          clear ez c1
                          have hr := hr.below (below_drewN (Below.refl wr.heap.size wr) nq)
                          have hb := below_drewN hb nq
                          generalize wr.drewN nq = W1 at *
                          generalize hT : cutS s = T at *
                          go_wp2_with fail
                          refine (bytes_any (most := 50) hr (by unfold I64; omega)).mono ?_
                          rintro e w1 ⟨a1, k1, cc1, rfl, ho, hr1, hg1⟩
                          rw [bytesR_50 hcl] at hr1 ho
                          have hb1 := hb.grown hg1 hb.size (fun k hk => by cases hk; exact hwg)
                          have hcv := conv_bytes ho.rd
                          go_wp2_with fail
                          refine (text_any (most := 50) hr1 (by unfold I64; omega)).mono ?_
                          rintro e w2 ⟨rfl, hr2, hg2⟩
                          rw [bytesR_50 hcl] at hr2 ⊢
                          have hb2 := hb1.grown hg2 hb1.size (fun k hk => by cases hk; exact hwg)
                          go_wp2_with fail
                          go_roundw
                          case rel => exact ⟨x + 1, by simp, by omega, hr2, hb2⟩
                          case measure => simp [intOf]; omega
                        · have hxx : ss.drop x = [] := List.drop_of_length_le (by rw [hS.len]; omega)
                          rw [hxx, List.flatMap_nil] at hr
                          clear hxx
                          go_wp2_with fail
                          refine (known_any _).mono ?_
                          rintro e w1 ⟨rfl, hb1⟩
                          have hr := hr.below hb1
                          go_wp2_with fail
                          refine (end_any hr).mono ?_
                          rintro e w2 ⟨rfl, rfl⟩
                          rw [show endR ([], 0) = 0 from rfl]
                          go_wp2_with fail
                          refine (left_any hr).mono ?_
                          rintro e w2 ⟨rfl, rfl⟩
                          go_wp2_with fail
                          go_ret
                          exact ⟨rfl, below_trans hb hb1⟩

theorem there_walk : LawWalk 11 Try.f11.params.toList := by
  intro W args h
  obtain ⟨v0, v1, v2, rfl, h0, h1, h2⟩ := argsOk3 h
  obtain ⟨ao, n, c, l, rfl, hL, hl, hn⟩ := one_us h0
  obtain ⟨bo, m, d, ks, rfl, hK, hk, hm⟩ := one_is h1
  obtain ⟨so, q, e, ss, rfl, hS, hs, hq⟩ := one_ss h2
  exact there_any hL hK hS hl hk hs hn hm hq

set_option maxRecDepth 100000 in
theorem octetThere_lifted (os : Os) (started : os.Started) (H : Type) (enc : TypeId × Value → H) :
    ReturnsInHanded {} Try.checked os 11 .any (Rows.octetThereSpec.pre6 enc Try.prog Try.f11 Rows.octetThereRow.domain false) (Rows.octetThereSpec.post enc Try.prog Try.f11 false true false false) :=
  law_lifted Try.func11 rfl rfl (by decide +kernel) (fun H ds h => by match ds, h with | [_, _, _], _ => rfl) (by kernel_rfl) os started H enc
    (ChangeSpec.witness6 (enc := enc) (C := Try.checked) false ⟨#[], #[.slice none 0 0, .slice none 0 0, .slice none 0 0], []⟩ 8 (by kernel_rfl) (by kernel_rfl) (by kernel_rfl) (by kernel_rfl)) there_walk

theorem octetThere_proved : Rows.OctetThereSaid :=
  OpenClaim.holds_of_wide 11 Try.f11 rfl rfl rfl rfl rfl rfl rfl ⟨rfl, rfl, rfl, rfl, rfl⟩ rfl rfl rfl rfl rfl (by kernel_rfl) Try.func11 (by kernel_rfl)
    (of_decide_eq_true (by kernel_rfl)) (by unfold Func.isWrapper; first | (rw [if_pos (by decide +kernel)]; kernel_rfl) | (rw [if_neg (by decide +kernel)]; exact ⟨rfl, rfl⟩))
    (fun os started H enc _ => octetThere_lifted os started H enc)
#print axioms octetThere_proved
end Go.Proofs.Ytpnliafjiookpaa
