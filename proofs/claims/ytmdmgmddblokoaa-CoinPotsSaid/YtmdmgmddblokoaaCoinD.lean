/- The layer coin: Split, by its walk. -/
import Derived.Test.YtmdmgmddblokoaaCoinC
import Derived.WalkMore
namespace Go.Proofs.Ytmdmgmddblokoaa
open Go.RowKit

set_option maxRecDepth 100000 in
set_option maxHeartbeats 2000000 in
theorem splitC_any {w : World} {total : Int} {ao : Option Addr} {n c : Nat} {l : List Int} (hR : RdS intE w ao n c l) (hn : n ≤ 140737488351232) :
    Calls Try.prog 11 #[.int .i64 total, .slice ao n c] w fun e w' => ∃ ao' n' c', e = .returned (.tuple #[.slice ao' n' c', .int .i64 (splitF total l).2]) ∧ OwnS intE w' w.heap.size ao' n' c' (splitF total l).1 ∧ Below w.heap.size w w' := by
  have hlen := hR.len
  rcases Bool.eq_false_or_eq_true (okA total) with t1 | t1
  · by_cases h0 : n = 0
    · have he : splitF total l = ([], 1) := by unfold splitF; rw [if_pos t1, if_pos (.inl (by omega))]
      have HE := hide he
      clear he
      subst h0
      go_enter Try.func11, Try.ntmps11
      go_wp2_with fail
      go_step3
      go_wp2_with fail
      refine (rightC_any total w).mono ?_
      rintro e w1 ⟨rfl, rfl⟩
      go_wp2_with fail
      simp only [Exit.noGoto_ret]
      go_wp2_with fail
      go_ret2
      exact ⟨none, 0, 0, by rw [HE.out]; rfl, by rw [HE.out]; exact OwnS.nilRow _ _, Below.refl _ _⟩
    by_cases h8 : 8 < n
    · have he : splitF total l = ([], 1) := by unfold splitF; rw [if_pos t1, if_pos (.inr (by omega))]
      have HE := hide he
      have t2 : (8 : Int) < n := by omega
      have t3 : ((n : Int) == 0) = false := by simp; omega
      clear he h0 h8
      go_enter Try.func11, Try.ntmps11
      go_wp2_with fail
      go_step3
      go_wp2_with fail
      refine (rightC_any total w).mono ?_
      rintro e w1 ⟨rfl, rfl⟩
      go_wp2_with fail
      simp only [Exit.noGoto_ret]
      go_wp2_with fail
      go_ret2
      exact ⟨none, 0, 0, by rw [HE.out]; rfl, by rw [HE.out]; exact OwnS.nilRow _ _, Below.refl _ _⟩
    have t2 : (n : Int) ≤ 8 := by omega
    have t3 : ((n : Int) == 0) = false := by simp; omega
    have h8' : n ≤ 8 := by omega
    have hb : splitF total l = if (weighF l).2 = 0 then (restF (total - (partsF total (weighF l).1 l).sum) l (partsF total (weighF l).1 l), 0) else ([], (weighF l).2) := by
      unfold splitF; rw [if_pos t1, if_neg (by omega)]
    clear h8 h0
    by_cases hw : (weighF l).2 = 0
    · obtain ⟨g1, g2, g3⟩ := weighF_ok hw
      rw [if_pos hw, g2] at hb
      have hlo := left_ok t1 g1 (by omega)
      obtain ⟨a0, a1⟩ := (okA_iff _).1 t1
      obtain ⟨al, hal⟩ : ∃ al, l.sum = al := ⟨_, rfl⟩
      rw [hal] at g2 g3 hb hlo
      obtain ⟨ps, hps⟩ : ∃ ps, partsF total al l = ps := ⟨_, rfl⟩
      have HP := hide hps
      have HE := hide hb
      have HL := hide hlen
      have HR := hide h8'
      have HW := hide g1
      have HA := hide g2
      have HO := hide hlo
      have t4 := hw
      clear hb hlen h8' g1 g2 hlo hal hps hw
      go_enter Try.func11, Try.ntmps11
      go_wp2_with fail
      go_step3
      go_wp2_with fail
      refine (rightC_any total w).mono ?_
      rintro e w1 ⟨rfl, rfl⟩
      go_wp2_with fail
      refine (weigh_any hR HR.out).mono ?_
      rintro e w1 ⟨rfl, rfl⟩
      rw [HA.out]
      go_wp2_with (refine wpList_make1 sTI rfl _ _ rfl rfl rfl (0 : Int) rfl rfl rfl (by omega) (by unfold maxLen; omega) ?_)
      intro W1 ho hb1
      go_wp2_with fail
      go_loopw [8, 41] (fun v8 v41 wr => ∃ (i : Nat), v8 = .int .i64 (total - (partsF total al (l.take i)).sum) ∧ v41 = .int .i64 i ∧ i ≤ n ∧
          OwnS intE wr w.heap.size (some ⟨w.heap.size, 0, none⟩) n n (partsF total al (l.take i) ++ List.replicate (n - i) 0) ∧ Below w.heap.size w wr) (fun _ v41 _ => n - (intOf v41).toNat)
      case atStart => exact ⟨0, by simp [partsF], rfl, Nat.zero_le _, by simpa [partsF] using ho, hb1⟩
      case round =>
        obtain ⟨i, rfl, rfl, hin, ho, hW⟩ := hrel
        by_cases hlt : i < n
        · obtain ⟨x, hx, _, hm⟩ := hR.next hlt
          have hRw := hR.below hW
          obtain ⟨b, o, rfl, c1⟩ := hRw.int hx
          obtain ⟨p0, p1, p2, p3⟩ := part_ok t1 (List.all_eq_true.1 HW.out x hm) g3
          have f1 := ho.free i
          obtain ⟨z, hz⟩ : ∃ z, (partsF total al (l.take i) ++ List.replicate (n - i) 0)[i]? = some z := ⟨_, List.getElem?_eq_getElem (by have := ho.len; omega)⟩
          have c2 := ho.cell intE_ok hz (j := 0) rfl
          have c2 : wr.cell? ⟨w.heap.size, i, none⟩ = some (.int .i64 z) := by simpa [intE] using c2
          have ho2 := ho.put1 i (total * x / al) (u := .int .i64 (total * x / al)) (fun _ => rfl) rfl
          rw [parts_set hx HL.out] at ho2
          have hW2 := ho.frame hW (w' := wr.setCell ⟨w.heap.size, i, none⟩ (.int .i64 (total * x / al))) (grown_setCell _ _ _)
          obtain ⟨q0, q1⟩ := HO.out i
          obtain ⟨q2, q3⟩ := HO.out (i + 1)
          have e3 : total - (partsF total al (l.take (i + 1))).sum = total - (partsF total al (l.take i)).sum - total * x / al := by rw [parts_next hx]; simp; omega
          have H3 := hide e3
          generalize (partsF total al (l.take i)).sum = s0 at *
          clear hz ho e3 q2 q3
          go_wp2_with fail
          go_roundw
          case rel => exact ⟨i + 1, by rw [H3.out], by simp, by omega, ho2, hW2⟩
          case measure => simp [intOf]; omega
        · have hie : i = n := by omega
          subst hie
          have hl : l.take i = l := List.take_of_length_le (by rw [HL.out]; exact Nat.le_refl _)
          rw [hl, HP.out, Nat.sub_self, List.replicate_zero, List.append_nil] at ho
          obtain ⟨q0, q1⟩ := HO.out i
          rw [hl, HP.out] at q0 q1 ⊢
          clear hl
          have hpl : ps.length = i := by rw [← HP.out, parts_len, HL.out]
          have HPL := hide hpl
          clear hpl
          go_wp2_with fail
          go_step3
          go_wp2_with fail
          go_loopw [8, 63] (fun v8 v63 wr => ∃ (k : Nat) (left : Int) (pre : List Int), v8 = .int .i64 left ∧ v63 = .int .i64 k ∧ k ≤ i ∧ 0 ≤ left ∧ left ≤ 1125899906842624 ∧ pre.length = k ∧
              restF (total - ps.sum) l ps = pre ++ restF left (l.drop k) (ps.drop k) ∧ OwnS intE wr w.heap.size (some ⟨w.heap.size, 0, none⟩) i i (pre ++ ps.drop k) ∧ Below w.heap.size w wr) (fun _ v63 _ => i - (intOf v63).toNat)
          case atStart => exact ⟨0, _, [], rfl, rfl, Nat.zero_le _, by omega, by omega, rfl, rfl, ho, hW⟩
          case round =>
            clear ho hW
            obtain ⟨k, left, pre, rfl, rfl, hk, l0, l1, hpre, hst, ho, hW⟩ := hrel
            have HPR := hide hpre
            clear hpre
            by_cases hlt : k < i
            · obtain ⟨x, hx, hd, hm⟩ := hR.next hlt
              have hRw := hR.below hW
              obtain ⟨b, o, rfl, c1⟩ := hRw.int hx
              obtain ⟨p0, p1, p2, p3⟩ := part_ok t1 (List.all_eq_true.1 HW.out x hm) g3
              obtain ⟨h1, h2⟩ := parts_at (total := total) (all := al) hx
              rw [HP.out] at h1 h2
              generalize total * x / al = y at *
              rw [restF_next hd h2] at hst
              obtain ⟨x0, x1⟩ := (okW_iff x).1 (List.all_eq_true.1 HW.out x hm)
              have hg : (pre ++ ps.drop k)[k]? = some y := by rw [List.getElem?_append_right (by rw [HPR.out]; exact Nat.le_refl _), HPR.out, Nat.sub_self, h2]; rfl
              have c2 := ho.cell intE_ok hg (j := 0) rfl
              have c2 : wr.cell? ⟨w.heap.size, k, none⟩ = some (.int .i64 y) := by simpa [intE] using c2
              have f1 := ho.free k
              have ho2 := ho.put1 k (y + 1) (u := .int .i64 (y + 1)) (fun _ => rfl) rfl
              have hset : (pre ++ ps.drop k).set k (y + 1) = (pre ++ [y + 1]) ++ ps.drop (k + 1) := by rw [h2, List.set_append_right _ _ (by rw [HPR.out]; exact Nat.le_refl _), HPR.out, Nat.sub_self]; simp
              rw [hset] at ho2
              have hW2 := ho.frame hW (w' := wr.setCell ⟨w.heap.size, k, none⟩ (.int .i64 (y + 1))) (grown_setCell _ _ _)
              have happ : pre ++ ps.drop k = (pre ++ [y]) ++ ps.drop (k + 1) := by rw [h2]; simp
              have HH := hide happ
              clear hset hg h1 h2 happ hd
              by_cases z1 : left = 0
              · rw [if_pos z1] at hst
                have HS := hide hst
                subst z1
                clear hst
                go_wp2_with fail
                simp only [Exit.noGoto_ret]
                go_wp2_with fail
                go_ret2
                exact ⟨_, _, _, by rw [HE.out]; rfl, by rw [HE.out, HP.out, HS.out]; exact ho, hW⟩
              · have z2 : (left == 0) = false := by simpa using z1
                rw [if_neg z1] at hst
                by_cases z3 : x = 0
                · rw [if_pos z3] at hst
                  have HS := hide hst
                  subst z3
                  clear hst z1
                  go_wp2_with fail
                  go_roundw
                  case rel => exact ⟨k + 1, left, pre ++ [y], rfl, by simp, by omega, l0, l1, by simp [HPR.out], by rw [HS.out]; simp, by rw [← HH.out]; exact ho, hW⟩
                  case measure => simp [intOf]; omega
                · have z4 : (x == 0) = false := by simpa using z3
                  rw [if_neg z3] at hst
                  have HS := hide hst
                  have z5 : 1 ≤ left := by omega
                  clear hst z1 z3
                  go_wp2_with fail
                  go_roundw
                  case rel => exact ⟨k + 1, left - 1, pre ++ [y + 1], rfl, by simp, by omega, by omega, by omega, by simp [HPR.out], by rw [HS.out]; simp, ho2, hW2⟩
                  case measure => simp [intOf]; omega
            · have h0 : l.drop k = [] := hR.done (by omega)
              have h1 : ps.drop k = [] := List.drop_of_length_le (by rw [HPL.out]; omega)
              rw [h0, h1] at hst
              rw [h1] at ho
              have HS := hide hst
              clear hst h0 h1
              go_wp2_with fail
              simp only [Exit.noGoto_ret]
              go_wp2_with fail
              go_ret2
              exact ⟨_, _, _, by rw [HE.out]; rfl, by rw [HE.out, HP.out, HS.out]; exact ho, hW⟩
    · rw [if_neg hw] at hb
      have HE := hide hb
      have t4 : ((weighF l).2 != 0) = true := by simpa using hw
      clear hb hw
      go_enter Try.func11, Try.ntmps11
      go_wp2_with fail
      go_step3
      go_wp2_with fail
      refine (rightC_any total w).mono ?_
      rintro e w1 ⟨rfl, rfl⟩
      go_wp2_with fail
      refine (weigh_any hR h8').mono ?_
      rintro e w1 ⟨rfl, rfl⟩
      go_wp2_with fail
      simp only [Exit.noGoto_ret]
      go_wp2_with fail
      go_ret2
      exact ⟨none, 0, 0, by rw [HE.out]; rfl, by rw [HE.out]; exact OwnS.nilRow _ _, Below.refl _ _⟩
  · have he : splitF total l = ([], 2) := by simp [splitF, t1]
    have HE := hide he
    clear he
    go_enter Try.func11, Try.ntmps11
    go_wp2_with fail
    go_step3
    go_wp2_with fail
    refine (rightC_any total w).mono ?_
    rintro e w1 ⟨rfl, rfl⟩
    go_wp2_with fail
    simp only [Exit.noGoto_ret]
    go_wp2_with fail
    go_ret2
    exact ⟨none, 0, 0, by rw [HE.out]; rfl, by rw [HE.out]; exact OwnS.nilRow _ _, Below.refl _ _⟩
end Go.Proofs.Ytmdmgmddblokoaa
