/- OctetApart: what is put shares nothing with what it is put behind, nor with what else is put there. For all arguments, with no condition. -/
import Derived.Test.YtpnliafjiookpaaOctF
namespace Go.Proofs.Ytpnliafjiookpaa
open Go.RowKit

/-- A new row of 400 bytes. -/
def blank : Array Value := madeCells #[.int .u8 0] 400

@[go_sem] theorem make400 (w : World) : (Instr.makeSlice 22 (.int .i64 0) (.int .i64 400)).run Try.prog w = .ok (.slice (some ⟨w.heap.size, 0, none⟩) 0 400) (w.alloc (.cells blank 5)) := by
  obtain ⟨i, hi, hz, hsz, hby⟩ := info_parts sT8.info
  have h := run_make (P := Try.prog) w 22 5 i (.int .u8 0) Try.underlying22 hi hz .i64 .i64 0 400 (by omega) (by omega) (by rw [hby]; omega) (by omega)
  rw [h]
  simp [hsz, blank, byteE, Value.cells]

theorem blank_own (w : World) : OwnB (w.alloc (.cells blank 5)) w.heap.size (some ⟨w.heap.size, 0, none⟩) 0 400 [] :=
  ⟨World.ownsRow_made (e := 5) (size := 1) w blank 400 (Nat.le_refl _) (by unfold maxLen; omega) (by simp [blank, size_madeCells]), rfl⟩

set_option maxRecDepth 100000 in
set_option maxHeartbeats 1000000 in
theorem apart_any {bo xo : Option Addr} {bn bc xn xc n m : Nat} {bs xs : List UInt8} {w : World} (hB : RdB w bo bn bc bs) (hX : RdB w xo xn xc xs) (hn : U64 n) (hm : U64 m) (hb : bn ≤ 140737488351232) (hx : xn ≤ 140737488351232) :
    Calls Try.prog 4 #[.slice bo bn bc, .int .u64 n, .int .u64 m, .slice xo xn xc] w fun e w' => e = .returned (.bool true) ∧ Below w.heap.size w w' := by
  have hbc := hB.cap
  have hxc := hX.cap
  obtain ⟨b1, e1, q1, q3⟩ := cut_is bn 100 (by omega)
  obtain ⟨x1, e2, q2, q4⟩ := cut_is xn 100 (by omega)
  have hB := hB.take byteE_ok q1
  have hX := hX.take byteE_ok q2
  generalize bs.take b1 = bs at hB
  generalize xs.take x1 = xs at hX
  go_enter Try.func4, Try.ntmps4
  go_wp2_with (at_builtin; refine wpList_app byteE_ok sT8 rfl (.tmp 16) (.tmp 21) rfl rfl (OwnS.emptyRow _ (Nat.le_refl _)) rfl (hX.below (below_alloc w _)) ?_ ?_ ?_ ?_)
  · omega
  · unfold maxLen; omega
  · simp
  intro xa xk w1 hox hg _
  have hb1 := (below_alloc w (.cells #[] 5)).grown hg (by simp) (fun k hk => by simp [Value.ownBlock] at hk; omega)
  clear hg
  go_wp2_with fail
  go_cut [9] (fun v wr => ∃ ba bk, v = .slice ba b1 bk ∧ OwnB wr w1.heap.size ba b1 bk bs ∧ Below w1.heap.size w1 wr)
  case first =>
    have hbc1 : b1 ≤ bc := by omega
    go_region_law (refine step_app byteE_ok sT8 rfl (.tmp 23) (.tmp 28) rfl rfl ((blank_own w1).below (w' := (w1.alloc (.cells blank 5)).drew) (Below.refl _ _).drew) rfl (hB.below (below_trans hb1 (below_alloc w1 (.cells blank 5)).drew)) (by omega) (by unfold maxLen; omega) (by simp) ?_; intro ba bk w2 hob hg _; have hb2 := (below_alloc w1 (.cells blank 5)).drew.grown hg (by simp) (fun k hk => by simp [Value.ownBlock] at hk; omega))
    all_goals
      go_wp2_with fail
      go_meet
      case rel => exact ⟨ba, bk, rfl, by simpa using hob, hb2⟩
  case rest =>
    obtain ⟨ba, bk, rfl, hob, hb2⟩ := hcut
    go_wp2_with fail
    refine (putNum_any hob.rd (by omega) hn).mono ?_
    rintro e w3 ⟨pa, pn, pk, rfl, hop, hb3, hpn, hpn2⟩
    go_wp2_with fail
    refine (putBytes_any (hob.rd.below hb3) (hox.rd.below (below_trans hb2 hb3)) (by omega)).mono ?_
    rintro e w4 ⟨qa, qn, qk, rfl, hoq, hb4, hqn, hqn2⟩
    go_wp2_with fail
    refine (putNum_any (hob.rd.below (below_trans hb3 hb4)) (by omega) hm).mono ?_
    rintro e w5 ⟨ra, rn, rk, rfl, hor, hb5, hrn, hrn2⟩
    have t1 : ((rn : Int) == 0) = false := by simp; omega
    have t2 : decide (qn < b1) = false := by simp; omega
    go_wp2_with fail
    have hob4 := (hob.below hb3).below hb4
    have hop4 := hop.below hb4
    have hox4 := ((hox.below hb2).below hb3).below hb4
    clear hb hx hB hX
    go_loopw [13] (fun i wr => ∃ (k : Nat) (rs : List UInt8), k ≤ rn ∧ i = .int .i64 k ∧ OwnB wr w4.heap.size ra rn rk rs ∧ Below w4.heap.size w4 wr) (fun i _ => rn - (intOf i).toNat)
    case atStart => exact ⟨0, _, Nat.zero_le _, rfl, hor, hb5⟩
    case round =>
      obtain ⟨k, rs, hk, rfl, hor', hb5'⟩ := hrel
      by_cases hlt : k < rn
      · obtain ⟨rb, ro, rfl, hrc⟩ := hor'.rd.byte k hlt
        obtain ⟨g, hg, hg1, hg2⟩ := hor'.addr _ rfl
        cases hg
        have hfr := hor'.free k
        simp only [Nat.zero_add] at hrc
        have hbt := bt_lt rs k
        go_wp2_with fail
        go_roundw
        case rel => 
          refine ⟨k + 1, rs.set k (UInt8.ofNat (bt rs k + 1)), by omega, by go_num, hor'.put1 k _ (fun _ => rfl) ?_, hb5'.setCell hg1 _⟩
          simp [byteE]
        case measure => simp [intOf]; omega
      · clear hor hor'
        obtain ⟨wl, rfl⟩ : ∃ wl : World, wl = wr := ⟨_, rfl⟩
        go_wp2_with (at_builtin; refine wpList_app byteE_ok sT8 rfl (.tmp 61) (.tmp 62) rfl rfl (OwnS.emptyRow _ (Nat.le_refl _)) rfl ((hob4.rd.below hb5').below (below_alloc wl _)) ?_ ?_ ?_ ?_)
        · omega
        · unfold maxLen; omega
        · simp
        intro ya yk w6 hoy hgy _
        have hq6 := (below_alloc wl (.cells #[] 5)).grown hgy (by simp) (fun k hk => by simp [Value.ownBlock] at hk; omega)
        clear hgy
        have hq6' := below_trans hb5' hq6
        go_wp2_with fail
        refine (rbytes_any (hox4.rd.below hq6') (by omega)).mono ?_
        rintro e w7 ⟨za, zn, zk, rfl, hoz, hq7, hzn, _⟩
        go_wp2_with (at_builtin; refine wpList_app byteE_ok sT8 rfl (.tmp 63) (.tmp 65) rfl rfl (hoy.below hq7) rfl hoz.rd ?_ ?_ ?_ ?_)
        · omega
        · unfold maxLen; omega
        · exact (below_trans hq6 hq7).size
        intro va vk w8 hov hgv _
        have hq8 := (hoy.below hq7).frame (below_trans hq6 hq7) hgv
        clear hgv
        -- what is known at w8: base, p, q, x, want
        have hr8 := below_trans hb5' hq8
        have hob8 := hob4.below hr8
        have hop8 := hop4.below hr8
        have hoq8 := hoq.below hr8
        have hox8 := hox4.below hr8
        have hW := below_trans (below_trans (below_trans (below_trans hb1 hb2) hb3) hb4) hr8
        have hsz : w1.heap.size ≤ wl.heap.size := (below_trans (below_trans (below_trans hb2 hb3) hb4) hb5').size
        have nb := hob.ne hox (Nat.le_refl _)
        have np := hop.ne hox hb2.size
        have nq := hoq.ne hox (below_trans hb2 hb3).size
        have nv := hov.ne hox hsz
        go_wp2_with fail
        go_loopw [15] (fun i wr => ∃ (k : Nat) (xs' : List UInt8), k ≤ x1 ∧ i = .int .i64 k ∧ OwnB wr w.heap.size xa x1 xk xs' ∧ w8.grownBy wr (Value.slice xa x1 xk).ownBlock) (fun i _ => x1 - (intOf i).toNat)
        case atStart => exact ⟨0, _, Nat.zero_le _, rfl, hox8, World.grownBy.refl _ _⟩
        case round =>
          obtain ⟨k2, xs', hk2, rfl, hox', hgx⟩ := hrel
          by_cases hlt2 : k2 < x1
          · obtain ⟨rb, ro, rfl, hrc⟩ := hox'.rd.byte k2 hlt2
            obtain ⟨g, hg, hg1, hg2⟩ := hox'.addr _ rfl
            cases hg
            have hfr := hox'.free k2
            simp only [Nat.zero_add] at hrc
            have hbt := bt_lt xs' k2
            have HN := hide (And.intro nb (And.intro np (And.intro nq nv)))
            clear nb np nq nv
            go_wp2_with fail
            go_roundw
            case rel =>
              refine ⟨k2 + 1, xs'.set k2 (UInt8.ofNat (bt xs' k2 + 1)), by omega, by go_num, hox'.put1 k2 _ (fun _ => rfl) ?_, grown_trans hgx (grown_setCell _ _ _)⟩
              simp [byteE]
            case measure => simp [intOf]; omega
          · have hob9 := hob8.grown hgx nb
            have hop9 := hop8.grown hgx np
            have hoq9 := hoq8.grown hgx nq
            have hov9 := hov.grown hgx nv
            have hW9 := hW.grown hgx hW.size (fun k hk => (hox.own.lt k hk).1)
            clear hgx nb np nq nv hox' hob8 hop8 hoq8 hov hox8 hq8 hr8 hoz hoy hob4 hop4 hox4 hoq hob hop
            go_wp2_with fail
            refine (known_any _).mono ?_
            rintro e w10 ⟨rfl, hb10⟩
            go_wp2_with (at_builtin; refine wpList_app byteE_ok sT8 rfl (.tmp 82) (.tmp 83) rfl rfl (OwnS.emptyRow _ (Nat.le_refl _)) rfl ((hob9.rd.below hb10).below (below_alloc w10 _)) ?_ ?_ ?_ ?_)
            · omega
            · unfold maxLen; omega
            · simp
            intro ta tk w11 hot hgt _
            have hq11 := (below_alloc w10 (.cells #[] 5)).grown hgt (by simp) (fun k hk => by simp [Value.ownBlock] at hk; omega)
            clear hgt
            go_wp2_with fail
            refine (rnum_any hn).mono ?_
            rintro e w12 ⟨sa, sn, sk, rfl, hos, hq12, hsn, _⟩
            go_wp2_with (at_builtin; refine wpList_app byteE_ok sT8 rfl (.tmp 84) (.tmp 86) rfl rfl (hot.below hq12) rfl hos.rd ?_ ?_ ?_ ?_)
            · omega
            · unfold maxLen; omega
            · exact (below_trans hq11 hq12).size
            intro ma mk w13 hom hgm _
            have hq13 := below_trans hb10 ((hot.below hq12).frame (below_trans hq11 hq12) hgm)
            clear hgm
            go_wp2_with fail
            refine (same_yes (hop9.rd.below hq13) hom.rd rfl (by omega)).mono ?_
            rintro e w14 ⟨rfl, hb14⟩
            have hb14 := below_trans hq13 hb14
            go_wp2_with fail
            refine (same_yes (hoq9.rd.below hb14) (hov9.rd.below hb14) (by simp) (by omega)).mono ?_
            rintro e w15 ⟨rfl, hb15⟩
            go_wp2_with fail
            go_ret
            exact ⟨rfl, hW9.trans ((below_trans hb14 hb15).mono hW9.size)⟩

theorem apart_walk : LawWalk 4 Try.f4.params.toList := by
  intro W args h
  obtain ⟨v0, v1, v2, v3, rfl, h0, h1, h2, h3⟩ := argsOk4 h
  obtain ⟨bo, bn, bc, bs, rfl, hB, hb, _⟩ := one_by h0
  obtain ⟨n, rfl, hn⟩ := one_u64 Try.underlying23 h1
  obtain ⟨m, rfl, hm⟩ := one_u64 Try.underlying23 h2
  obtain ⟨xo, xn, xc, xs, rfl, hX, hx, _⟩ := one_by h3
  exact apart_any hB hX hn hm hb hx

set_option maxRecDepth 100000 in
theorem octetApart_lifted (os : Os) (started : os.Started) (H : Type) (enc : TypeId × Value → H) :
    ReturnsInHanded {} Try.checked os 4 .any (Rows.octetApartSpec.pre6 enc Try.prog Try.f4 Rows.octetApartRow.domain false) (Rows.octetApartSpec.post enc Try.prog Try.f4 false true false false) :=
  law_lifted Try.func4 rfl rfl (by decide +kernel) (fun H ds h => by match ds, h with | [_, _, _, _], _ => rfl) (by kernel_rfl) os started H enc
    (ChangeSpec.witness6 (enc := enc) (C := Try.checked) false ⟨#[], #[.slice none 0 0, .int .u64 0, .int .u64 0, .slice none 0 0], []⟩ 8 (by kernel_rfl) (by kernel_rfl) (by kernel_rfl) (by kernel_rfl)) apart_walk

theorem octetApart_proved : Rows.OctetApartSaid :=
  OpenClaim.holds_of_wide 4 Try.f4 rfl rfl rfl rfl rfl rfl rfl ⟨rfl, rfl, rfl, rfl, rfl⟩ rfl rfl rfl rfl rfl (by kernel_rfl) Try.func4 (by kernel_rfl)
    (of_decide_eq_true (by kernel_rfl)) (by unfold Func.isWrapper; first | (rw [if_pos (by decide +kernel)]; kernel_rfl) | (rw [if_neg (by decide +kernel)]; exact ⟨rfl, rfl⟩))
    (fun os started H enc _ => octetApart_lifted os started H enc)
#print axioms octetApart_proved
end Go.Proofs.Ytpnliafjiookpaa
