/- OctetPuts: the bytes of any number, with a sign or without, of any bytes and any text, behind any others, are the document's; the others stay. For all arguments, with no condition. -/
import Derived.Test.YtpnliafjiookpaaOctF
namespace Go.Proofs.Ytpnliafjiookpaa
open Go.RowKit

set_option maxRecDepth 100000 in
set_option maxHeartbeats 1000000 in
theorem puts_any {bo xo : Option Addr} {bn bc xn xc n : Nat} {k : Int} {bs xs : List UInt8} {w : World} (hB : RdB w bo bn bc bs) (hX : RdB w xo xn xc xs) (hn : U64 n) (hk : I64 k) (hb : bn ≤ 140737488351232) (hx : xn ≤ 140737488351232) :
    Calls Try.prog 3 #[.slice bo bn bc, .int .u64 n, .int .i64 k, .slice xo xn xc] w fun e w' => e = .returned (.bool true) ∧ Below w.heap.size w w' := by
  have hbc := hB.cap
  have hxc := hX.cap
  go_enter Try.func3, Try.ntmps3
  go_wp2_with fail
  go_quiet (fail)
  obtain ⟨b1, e1, q1, q3⟩ := cut_is bn 200 (by omega)
  obtain ⟨x1, e2, q2, q4⟩ := cut_is xn 200 (by omega)
  simp only [e1, e2, Int.toNat_natCast]
  clear e1 e2
  have hB := hB.take byteE_ok q1
  have hX := hX.take byteE_ok q2
  generalize bs.take b1 = bs at hB
  generalize xs.take x1 = xs at hX
  have hbel : Below w.heap.size w (w.drewN nq) := below_drewN (Below.refl _ _) nq
  have hB := hB.below hbel
  have hX := hX.below hbel
  obtain ⟨w0, hw0⟩ : ∃ w0, w0 = w.drewN nq := ⟨_, rfl⟩
  rw [← hw0] at hB hX hbel ⊢
  clear hw0
  go_wp2_with (at_builtin; refine wpList_app byteE_ok sT8 rfl (.tmp 24) (.tmp 25) rfl rfl (OwnS.emptyRow _ (Nat.le_refl _)) rfl (hB.below (below_alloc w0 _)) ?_ ?_ ?_ ?_)
  · omega
  · unfold maxLen; omega
  · simp
  · intro a9 c9 w1 ho9 hg _
    have hb1 := (below_alloc w0 (.cells #[] 5)).grown hg (by simp) (fun k hk => by simp [Value.ownBlock] at hk; omega)
    clear hg
    have hB := hB.below hb1
    have hX := hX.below hb1
    have hbel := below_trans hbel hb1
    clear hb1
    go_upto_region 3 with fail
    go_cut [10, 11, 12, 13] (fun v10 v11 v12 v13 wr => ∃ a10 n10 c10 a11 n11 c11 a12 n12 c12 a13 n13 c13, v10 = .slice a10 n10 c10 ∧ v11 = .slice a11 n11 c11 ∧ v12 = .slice a12 n12 c12 ∧ v13 = .slice a13 n13 c13 ∧
      RdB wr a10 n10 c10 (bs ++ num n) ∧ RdB wr a11 n11 c11 (bs ++ num (fold k)) ∧ RdB wr a12 n12 c12 (bs ++ num x1 ++ xs) ∧ RdB wr a13 n13 c13 (bs ++ num x1 ++ xs) ∧ Below w1.heap.size w1 wr)
    case first =>
      have hd : Below w1.heap.size w1 w1.drew := (Below.refl _ _).drew
      have hconv : ∀ wz, Below w1.heap.size w1 wz → (convert 22 9 (.slice xo x1 xc)).run Try.prog wz = .ok (.string (strOf xs)) wz := fun wz h => conv_bytes (hX.below h)
      have hsz : (strOf xs).size = x1 := by rw [strOf_size, hX.len]
      have HS := hide hsz
      have hsz1 : (strOf xs).size ≤ 200 := by omega
      clear hsz
      go_region_with (first
        | (go_at_call 12; refine (putNum_any (hB.below (by assumption)) (by omega) hn).mono ?_; rintro e w2 ⟨a10, k10, c10, rfl, ho10, hr10, _, _⟩; have hb10 := below_trans (a := w1) (by assumption) hr10)
        | (go_at_call 13; refine (putInt_any (hB.below (by assumption)) (by omega) hk).mono ?_; rintro e w3 ⟨a11, k11, c11, rfl, ho11, hr11, _, _⟩; have hb11 := below_trans (a := w1) (by assumption) hr11)
        | (go_at_call 14; refine (putBytes_any (hB.below (by assumption)) (hX.below (by assumption)) (by omega)).mono ?_; rintro e w4 ⟨a12, k12, c12, rfl, ho12, hr12, _, _⟩; have hb12 := below_trans (a := w1) (by assumption) hr12)
        | (go_at_call 15; refine (putText_any (hB.below (by assumption)) (by omega)).mono ?_; rintro e w5 ⟨a13, k13, c13, rfl, ho13, hr13, _, _⟩; have hb13 := below_trans (a := w1) (by assumption) hr13))
      all_goals
        go_wp2_with fail
        go_meet
        case rel =>
          refine ⟨a10, k10, c10, a11, k11, c11, a12, k12, c12, a13, k13, c13, rfl, rfl, rfl, rfl, ?_, ?_, ?_, ?_, ?_⟩
          · exact ho10.rd.below (below_trans (below_trans hr11 hr12) hr13)
          · exact ho11.rd.below (below_trans hr12 hr13)
          · exact ho12.rd.below hr13
          · have := ho13.rd
            rw [HS.out, strOf_list] at this
            exact this
          · exact hb13
    case rest =>
      obtain ⟨a10, n10, c10, a11, n11, c11, a12, n12, c12, a13, n13, c13, rfl, rfl, rfl, rfl, h10, h11, h12, h13, hb1⟩ := hcut
      have hb := hB.len
      have hxl := hX.len
      have hn10 : n10 ≤ 210 := by have := h10.len; have := num_len n; simp at *; omega
      have hn11 : n11 ≤ 210 := by have := h11.len; have := num_len (fold k); simp at *; omega
      have hn12 : n12 ≤ 410 := by have := h12.len; have := num_len x1; simp at *; omega
      have hn13 : n13 ≤ 410 := by have := h13.len; have := num_len x1; simp at *; omega
      have hW9 := ho9.rd.below hb1
      have hBc := hB.below hb1
      have hXc := hX.below hb1
      have hbel := below_trans hbel hb1
      clear hB hX ho9 hb1 hb hxl
      go_wp2_with fail
      refine (known_any _).mono ?_
      rintro e w2 ⟨rfl, hb2⟩
      go_wp2_with fail
      refine (same_yes (hBc.below hb2) (hW9.below hb2) rfl (by omega)).mono ?_
      rintro e w3 ⟨rfl, hb3⟩
      have hb3 := below_trans hb2 hb3
      clear hb2
      go_wp2_with (at_builtin; refine wpList_app byteE_ok sT8 rfl (.tmp 48) (.tmp 49) rfl rfl (OwnS.emptyRow _ (Nat.le_refl _)) rfl (hW9.below (below_trans hb3 (below_alloc w3 _))) ?_ ?_ ?_ ?_)
      · omega
      · unfold maxLen; omega
      · simp
      intro a4 c4 w4 ho4 hg4 _
      have hr4 := (below_alloc w3 (.cells #[] 5)).grown hg4 (by simp) (fun k hk => by simp [Value.ownBlock] at hk; omega)
      clear hg4
      go_wp2_with fail
      refine (rnum_any hn).mono ?_
      rintro e w5 ⟨a5, n5, c5, rfl, ho5, hq5, hl5, _⟩
      have hr5 := below_trans hr4 hq5
      go_wp2_with (at_builtin; refine wpList_app byteE_ok sT8 rfl (.tmp 50) (.tmp 52) rfl rfl (ho4.below hq5) rfl ho5.rd ?_ ?_ ?_ ?_)
      · omega
      · unfold maxLen; omega
      · exact hr5.size
      intro a6 c6 w6 ho6 hg6 _
      have hb6 := below_trans hb3 ((ho4.below hq5).frame hr5 hg6)
      clear hg6 hr4 hr5 hq5 ho4 ho5 hb3
      go_wp2_with fail
      refine (same_yes (h10.below hb6) ho6.rd (by simp) (by omega)).mono ?_
      rintro e w7 ⟨rfl, hb7⟩
      have hb7 := below_trans hb6 hb7
      clear hb6 ho6
      go_wp2_with (at_builtin; refine wpList_app byteE_ok sT8 rfl (.tmp 58) (.tmp 59) rfl rfl (OwnS.emptyRow _ (Nat.le_refl _)) rfl (hW9.below (below_trans hb7 (below_alloc w7 _))) ?_ ?_ ?_ ?_)
      · omega
      · unfold maxLen; omega
      · simp
      intro a8 c8 w8 ho8 hg8 _
      have hr8 := (below_alloc w7 (.cells #[] 5)).grown hg8 (by simp) (fun k hk => by simp [Value.ownBlock] at hk; omega)
      clear hg8
      go_wp2_with fail
      refine (rfold_any hk).mono ?_
      rintro e wq1 ⟨rfl, rfl⟩
      go_wp2_with fail
      refine (rnum_any (fold_u64 hk)).mono ?_
      rintro e w9 ⟨a9, n9, c9, rfl, ho9, hq9, hl9, _⟩
      have hr9 := below_trans hr8 hq9
      go_wp2_with (at_builtin; refine wpList_app byteE_ok sT8 rfl (.tmp 60) (.tmp 63) rfl rfl (ho8.below hq9) rfl ho9.rd ?_ ?_ ?_ ?_)
      · omega
      · unfold maxLen; omega
      · exact hr9.size
      intro a10 c10 w10 ho10 hg10 _
      have hb10 := below_trans hb7 ((ho8.below hq9).frame hr9 hg10)
      clear hg10 hr8 hr9 hq9 ho8 ho9 hb7
      go_wp2_with fail
      refine (same_yes (h11.below hb10) ho10.rd (by simp) (by omega)).mono ?_
      rintro e w11 ⟨rfl, hb11⟩
      have hb11 := below_trans hb10 hb11
      clear hb10 ho10
      go_wp2_with (at_builtin; refine wpList_app byteE_ok sT8 rfl (.tmp 69) (.tmp 70) rfl rfl (OwnS.emptyRow _ (Nat.le_refl _)) rfl (hW9.below (below_trans hb11 (below_alloc w11 _))) ?_ ?_ ?_ ?_)
      · omega
      · unfold maxLen; omega
      · simp
      intro a12 c12 w12 ho12 hg12 _
      have hr12 := (below_alloc w11 (.cells #[] 5)).grown hg12 (by simp) (fun k hk => by simp [Value.ownBlock] at hk; omega)
      clear hg12
      go_wp2_with fail
      refine (rbytes_any (hXc.below (below_trans hb11 hr12)) (by omega)).mono ?_
      rintro e w13 ⟨a13b, n13b, c13b, rfl, ho13, hq13, hl13, _⟩
      have hr13 := below_trans hr12 hq13
      go_wp2_with (at_builtin; refine wpList_app byteE_ok sT8 rfl (.tmp 71) (.tmp 73) rfl rfl (ho12.below hq13) rfl ho13.rd ?_ ?_ ?_ ?_)
      · omega
      · unfold maxLen; omega
      · exact hr13.size
      intro a14 c14 w14 ho14 hg14 _
      have hb14 := below_trans hb11 ((ho12.below hq13).frame hr13 hg14)
      clear hg14 hr12 hr13 hq13 ho12 ho13 hb11
      go_wp2_with fail
      refine (same_yes (h12.below hb14) ho14.rd (by simp) (by omega)).mono ?_
      rintro e w15 ⟨rfl, hb15⟩
      have hb15 := below_trans hb14 hb15
      clear hb14 ho14
      go_wp2_with fail
      refine (same_yes (h13.below hb15) (h12.below hb15) rfl (by omega)).mono ?_
      rintro e w16 ⟨rfl, hb16⟩
      go_wp2_with fail
      go_ret
      exact ⟨rfl, below_trans hbel (below_trans hb15 hb16)⟩

theorem puts_walk : LawWalk 3 Try.f3.params.toList := by
  intro W args h
  obtain ⟨v0, v1, v2, v3, rfl, h0, h1, h2, h3⟩ := argsOk4 h
  obtain ⟨bo, bn, bc, bs, rfl, hB, hb, _⟩ := one_by h0
  obtain ⟨n, rfl, hn⟩ := one_u64 Try.underlying23 h1
  obtain ⟨k, rfl, hk⟩ := one_i64 Try.underlying2 h2
  obtain ⟨xo, xn, xc, xs, rfl, hX, hx, _⟩ := one_by h3
  exact puts_any hB hX hn hk hb hx

set_option maxRecDepth 100000 in
theorem octetPuts_lifted (os : Os) (started : os.Started) (H : Type) (enc : TypeId × Value → H) :
    ReturnsInHanded {} Try.checked os 3 .any (Rows.octetPutsSpec.pre6 enc Try.prog Try.f3 Rows.octetPutsRow.domain false) (Rows.octetPutsSpec.post enc Try.prog Try.f3 false true false false) :=
  law_lifted Try.func3 rfl rfl (by decide +kernel) (fun H ds h => by match ds, h with | [_, _, _, _], _ => rfl) (by kernel_rfl) os started H enc
    (ChangeSpec.witness6 (enc := enc) (C := Try.checked) false ⟨#[], #[.slice none 0 0, .int .u64 0, .int .i64 0, .slice none 0 0], []⟩ 8 (by kernel_rfl) (by kernel_rfl) (by kernel_rfl) (by kernel_rfl)) puts_walk

theorem octetPuts_proved : Rows.OctetPutsSaid :=
  OpenClaim.holds_of_wide 3 Try.f3 rfl rfl rfl rfl rfl rfl rfl ⟨rfl, rfl, rfl, rfl, rfl⟩ rfl rfl rfl rfl rfl (by kernel_rfl) Try.func3 (by kernel_rfl)
    (of_decide_eq_true (by kernel_rfl)) (by unfold Func.isWrapper; first | (rw [if_pos (by decide +kernel)]; kernel_rfl) | (rw [if_neg (by decide +kernel)]; exact ⟨rfl, rfl⟩))
    (fun os started H enc _ => octetPuts_lifted os started H enc)
#print axioms octetPuts_proved
end Go.Proofs.Ytpnliafjiookpaa
