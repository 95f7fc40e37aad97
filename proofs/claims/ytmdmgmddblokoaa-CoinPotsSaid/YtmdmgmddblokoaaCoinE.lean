/- The document's Split, by its walk. -/
import Derived.Test.YtmdmgmddblokoaaCoinC
namespace Go.Proofs.Ytmdmgmddblokoaa
open Go.RowKit

set_option maxRecDepth 100000 in
set_option maxHeartbeats 4000000 in
theorem splitR_any {w : World} {total : Int} {ao : Option Addr} {n c : Nat} {l : List Int} (hR : RdS intE w ao n c l) (hn : n ≤ 140737488351232) :
    Calls Try.prog 12 #[.int .i64 total, .slice ao n c] w fun e w' => ∃ ao' n' c', e = .returned (.tuple #[.slice ao' n' c', .int .i64 (splitF total l).2]) ∧ OwnS intE w' w.heap.size ao' n' c' (splitF total l).1 ∧ Below w.heap.size w w' := by
  have hlen := hR.len
  rcases Bool.eq_false_or_eq_true (okA total) with t1 | t1
  · by_cases h0 : n = 0
    · have he : splitF total l = ([], 1) := by unfold splitF; rw [if_pos t1, if_pos (.inl (by omega))]
      have HE := hide he
      clear he
      subst h0
      go_enter Try.func12, Try.ntmps12
      go_wp2_with fail
      refine (rightR_any total w).mono ?_
      rintro e w1 ⟨rfl, rfl⟩
      go_wp2_with fail
      go_ret2
      exact ⟨none, 0, 0, by rw [HE.out]; rfl, by rw [HE.out]; exact OwnS.nilRow _ _, Below.refl _ _⟩
    by_cases h8 : 8 < n
    · have he : splitF total l = ([], 1) := by unfold splitF; rw [if_pos t1, if_pos (.inr (by omega))]
      have HE := hide he
      have t2 : (8 : Int) < n := by omega
      have t3 : ((n : Int) == 0) = false := by simp; omega
      clear he h0 h8
      go_enter Try.func12, Try.ntmps12
      go_wp2_with fail
      refine (rightR_any total w).mono ?_
      rintro e w1 ⟨rfl, rfl⟩
      go_wp2_with fail
      go_ret2
      exact ⟨none, 0, 0, by rw [HE.out]; rfl, by rw [HE.out]; exact OwnS.nilRow _ _, Below.refl _ _⟩
    have t2 : (n : Int) ≤ 8 := by omega
    have t3 : ((n : Int) == 0) = false := by simp; omega
    have h8' : n ≤ 8 := by omega
    have hb : splitF total l = if (weighF l).2 = 0 then (restF (total - (partsF total (weighF l).1 l).sum) l (partsF total (weighF l).1 l), 0) else ([], (weighF l).2) := by
      unfold splitF; rw [if_pos t1, if_neg (by omega)]
    obtain ⟨a0, a1⟩ := (okA_iff _).1 t1
    have HB := hide hb
    have HL := hide hlen
    have HR := hide h8'
    clear h8 h0 hb hlen h8'
    go_enter Try.func12, Try.ntmps12
    go_wp2_with fail
    refine (rightR_any total w).mono ?_
    rintro e w1 ⟨rfl, rfl⟩
    go_wp2_with fail
    go_loopw [6, 7] (fun v6 v7 wr => ∃ (i : Nat), v6 = .int .i64 (l.take i).sum ∧ v7 = .int .i64 i ∧ i ≤ n ∧ (l.take i).all okW = true ∧ w = wr) (fun _ v7 _ => n - (intOf v7).toNat)
    case atStart => exact ⟨0, by simp, rfl, Nat.zero_le _, by simp, by first | rfl | trivial⟩
    case round =>
      obtain ⟨i, rfl, rfl, hin, hs, rfl⟩ := hrel
      obtain ⟨s0, s1⟩ := sum_bounds hs
      have s2 : (l.take i).length ≤ 8 := by rw [List.length_take]; have := HR.out; omega
      have HS := hide hs
      by_cases hlt : i < n
      · obtain ⟨x, hx, _, hm⟩ := hR.next hlt
        obtain ⟨b, o, rfl, c1⟩ := hR.int hx
        have e2 := take_next hx
        by_cases hbad : x < 0 ∨ 1024 < x
        · have he : splitF total l = ([], 2) := by
            rw [HB.out]
            unfold weighF
            rw [if_neg (show ¬ l.all okW = true from fun h => by
              have := (okW_iff x).1 (List.all_eq_true.1 h x hm)
              omega)]
            rfl
          have HE := hide he
          generalize (l.take i).sum = s at *
          clear he e2 hs
          rcases hbad with u1 | u1
          · go_wp2_with fail
            go_ret2
            exact ⟨none, 0, 0, by rw [HE.out]; rfl, by rw [HE.out]; exact OwnS.nilRow _ _, Below.refl _ _⟩
          · have u2 : 0 ≤ x := by omega
            go_wp2_with fail
            go_ret2
            exact ⟨none, 0, 0, by rw [HE.out]; rfl, by rw [HE.out]; exact OwnS.nilRow _ _, Below.refl _ _⟩
        · have u1 : 0 ≤ x := by omega
          have u2 : x ≤ 1024 := by omega
          have e3 : (l.take (i + 1)).sum = (l.take i).sum + x := by rw [e2]; simp
          have e4 : (l.take (i + 1)).all okW = true := by
            rw [e2, List.all_append, HS.out]
            simp [okW_iff, u1, u2]
          have H3 := hide e3
          have H4 := hide e4
          have s3 : (l.take i).sum ≤ 8192 := by omega
          clear e2 e3 e4 hs s1 s2 hbad
          generalize (l.take i).sum = s at *
          go_wp2_with fail
          go_roundw
          case rel => exact ⟨i + 1, by rw [H3.out], by simp, by omega, H4.out, by first | rfl | trivial⟩
          case measure => simp [intOf]; omega
      · have hie : i = n := by omega
        subst hie
        have hl : l.take i = l := List.take_of_length_le (by rw [HL.out]; exact Nat.le_refl _)
        rw [hl] at hs s0 s1 s2 ⊢
        by_cases hz : l.sum = 0
        · have he : splitF total l = ([], 1) := by
            rw [HB.out]
            unfold weighF
            rw [if_pos hs, if_pos hz]
            rfl
          have HE := hide he
          rw [hz]
          clear he hs s0 s1 s2 HS hl hz
          go_wp2_with fail
          go_ret2
          exact ⟨none, 0, 0, by rw [HE.out]; rfl, by rw [HE.out]; exact OwnS.nilRow _ _, Below.refl _ _⟩
        · have hlo := left_ok t1 hs hz
          obtain ⟨al, hal⟩ : ∃ al, l.sum = al := ⟨_, rfl⟩
          have g3 : 0 < al := by omega
          have t4 : (al == 0) = false := by simp; omega
          have hb2 : splitF total l = (restF (total - (partsF total al l).sum) l (partsF total al l), 0) := by
            rw [HB.out]
            unfold weighF
            rw [if_pos hs, if_neg hz, hal]
            rfl
          rw [hal] at hlo ⊢
          obtain ⟨ps, hps⟩ : ∃ ps, partsF total al l = ps := ⟨_, rfl⟩
          have HP := hide hps
          have HE := hide hb2
          have HW := hide hs
          have HO := hide hlo
          have hpl : ps.length = i := by rw [← HP.out, parts_len, HL.out]
          have HPL := hide hpl
          clear hpl hps hb2 hs hlo hal hz hl s0 s1 s2 HS
          go_wp2_with fail
          go_loopw [8, 9, 10] (fun v8 v9 v10 wr => ∃ (k : Nat) (a1 : Option Addr) (c1 : Nat), v8 = .slice a1 k c1 ∧ v9 = .int .i64 (total - (partsF total al (l.take k)).sum) ∧ v10 = .int .i64 k ∧ k ≤ i ∧
              OwnS intE wr w.heap.size a1 k c1 (partsF total al (l.take k)) ∧ Below w.heap.size w wr) (fun _ _ v10 _ => i - (intOf v10).toNat)
          case atStart => exact ⟨0, none, 0, rfl, by simp [partsF], rfl, Nat.zero_le _, OwnS.nilRow _ _, Below.refl _ _⟩
          case round =>
            obtain ⟨k, a1, c1, rfl, rfl, rfl, hk, ho, hW⟩ := hrel
            by_cases hlt2 : k < i
            · obtain ⟨x, hx, _, hm⟩ := hR.next hlt2
              have hRw := hR.below hW
              obtain ⟨b, o, rfl, cx⟩ := hRw.int hx
              obtain ⟨p0, p1, p2, p3⟩ := part_ok t1 (List.all_eq_true.1 HW.out x hm) g3
              obtain ⟨q0, q1⟩ := HO.out k
              have e3 : total - (partsF total al (l.take (k + 1))).sum = total - (partsF total al (l.take k)).sum - total * x / al := by rw [parts_next hx]; simp; omega
              have hnx := parts_next (total := total) (all := al) hx
              have H3 := hide e3
              have HN := hide hnx
              have hsz := hW.size
              clear e3 hnx
              generalize hs0 : (partsF total al (l.take k)).sum = s0 at *
              clear hs0
              go_wp2_with (at_builtin; refine wpList_app1 intE_ok sTI rfl (.tmp 56) (.tmp 65) rfl rfl ho (total * x / al) rfl rfl ?_ ?_ ?_ ?_)
              · omega
              · unfold maxLen; omega
              · omega
              · intro ao' c' w' ho' hg hne
                obtain ⟨ad, rfl⟩ : ∃ ad, ao' = some ad := by cases ao' with
                  | none => exact absurd rfl hne
                  | some ad => exact ⟨ad, rfl⟩
                obtain ⟨g, rfl, _, _⟩ := ho'.addr ad rfl
                have hW' := ho.frame hW hg
                rw [← HN.out] at ho'
                have cy : w'.cell? ⟨g, k, none⟩ = some (.int .i64 (total * x / al)) := by
                  have := ho'.cell intE_ok (k := k) (x := total * x / al) (by rw [HN.out, List.getElem?_append_right (by rw [parts_len, List.length_take]; omega), parts_len, List.length_take, HL.out, Nat.min_eq_left hk, Nat.sub_self]; rfl) (j := 0) rfl
                  simpa [intE] using this
                clear hne
                go_wp2_with fail
                go_roundw
                case rel => exact ⟨k + 1, _, c', rfl, by rw [H3.out], by simp, by omega, ho', hW'⟩
                case measure => simp [intOf]; omega
            · have hie : k = i := by omega
              subst hie
              have hl : l.take k = l := List.take_of_length_le (by rw [HL.out]; exact Nat.le_refl _)
              obtain ⟨q0, q1⟩ := HO.out k
              rw [hl, HP.out] at ho q0 q1 ⊢
              clear hl
              go_wp2_with fail
              go_loopw [9, 11] (fun v9 v11 wr => ∃ (j : Nat) (left : Int) (pre : List Int), v9 = .int .i64 left ∧ v11 = .int .i64 j ∧ j ≤ k ∧ 0 ≤ left ∧ left ≤ 1125899906842624 ∧ pre.length = j ∧
                  restF (total - ps.sum) l ps = pre ++ restF left (l.drop j) (ps.drop j) ∧ OwnS intE wr w.heap.size a1 k c1 (pre ++ ps.drop j) ∧ Below w.heap.size w wr) (fun _ v11 _ => k - (intOf v11).toNat)
              case atStart => exact ⟨0, _, [], rfl, rfl, Nat.zero_le _, by omega, by omega, rfl, rfl, ho, hW⟩
              case round =>
                have hsh := ho.shape
                clear ho hW
                obtain ⟨j, left, pre, rfl, rfl, hj, l0, l1, hpre, hst, ho, hW⟩ := hrel
                have HPR := hide hpre
                clear hpre
                by_cases hlt3 : j < k
                · obtain ⟨x, hx, hd, hm⟩ := hR.next hlt3
                  have hRw := hR.below hW
                  obtain ⟨b, o, rfl, cx⟩ := hRw.int hx
                  obtain ⟨ad, rfl⟩ : ∃ ad, a1 = some ad := by cases a1 with
                    | none => have := hsh.2.2 rfl; omega
                    | some ad => exact ⟨ad, rfl⟩
                  obtain ⟨g, rfl, _, _⟩ := ho.addr ad rfl
                  obtain ⟨p0, p1, p2, p3⟩ := part_ok t1 (List.all_eq_true.1 HW.out x hm) g3
                  obtain ⟨h1, h2⟩ := parts_at (total := total) (all := al) hx
                  rw [HP.out] at h1 h2
                  generalize total * x / al = y at *
                  rw [restF_next hd h2] at hst
                  obtain ⟨x0, x1⟩ := (okW_iff x).1 (List.all_eq_true.1 HW.out x hm)
                  have hg : (pre ++ ps.drop j)[j]? = some y := by rw [List.getElem?_append_right (by rw [HPR.out]; exact Nat.le_refl _), HPR.out, Nat.sub_self, h2]; rfl
                  have c2 := ho.cell intE_ok hg (j := 0) rfl
                  have c2 : wr.cell? ⟨g, j, none⟩ = some (.int .i64 y) := by simpa [intE] using c2
                  have f1 := ho.free j
                  have ho2 := ho.put1 j (y + 1) (u := .int .i64 (y + 1)) (fun _ => rfl) rfl
                  have hset : (pre ++ ps.drop j).set j (y + 1) = (pre ++ [y + 1]) ++ ps.drop (j + 1) := by rw [h2, List.set_append_right _ _ (by rw [HPR.out]; exact Nat.le_refl _), HPR.out, Nat.sub_self]; simp
                  rw [hset] at ho2
                  have hW2 := ho.frame hW (w' := wr.setCell ⟨g, j, none⟩ (.int .i64 (y + 1))) (grown_setCell _ _ _)
                  have happ : pre ++ ps.drop j = (pre ++ [y]) ++ ps.drop (j + 1) := by rw [h2]; simp
                  have HH := hide happ
                  clear hset hg h1 h2 happ hd hsh
                  by_cases z1 : left = 0
                  · rw [if_pos z1] at hst
                    have HS := hide hst
                    subst z1
                    clear hst
                    go_wp2_with fail
                    go_ret2
                    exact ⟨_, _, _, by rw [HE.out]; rfl, by rw [HE.out, HP.out, HS.out]; exact ho, hW⟩
                  · rw [if_neg z1] at hst
                    have z5 : 0 < left := by omega
                    by_cases z3 : x = 0
                    · rw [if_pos z3] at hst
                      have HS := hide hst
                      subst z3
                      clear hst z1
                      go_wp2_with fail
                      go_roundw
                      case rel => exact ⟨j + 1, left, pre ++ [y], rfl, by simp, by omega, l0, l1, by simp [HPR.out], by rw [HS.out]; simp, by rw [← HH.out]; exact ho, hW⟩
                      case measure => simp [intOf]; omega
                    · rw [if_neg z3] at hst
                      have HS := hide hst
                      have z6 : 0 < x := by omega
                      clear hst z1 z3
                      go_wp2_with fail
                      go_roundw
                      case rel => exact ⟨j + 1, left - 1, pre ++ [y + 1], rfl, by simp, by omega, by omega, by omega, by simp [HPR.out], by rw [HS.out]; simp, ho2, hW2⟩
                      case measure => simp [intOf]; omega
                · have h0 : l.drop j = [] := hR.done (by omega)
                  have h1 : ps.drop j = [] := List.drop_of_length_le (by rw [HPL.out]; omega)
                  rw [h0, h1] at hst
                  rw [h1] at ho
                  have HS := hide hst
                  clear hst h0 h1
                  go_wp2_with fail
                  go_ret2
                  exact ⟨_, _, _, by rw [HE.out]; rfl, by rw [HE.out, HP.out, HS.out]; exact ho, hW⟩
  · have he : splitF total l = ([], 2) := by simp [splitF, t1]
    have HE := hide he
    clear he
    go_enter Try.func12, Try.ntmps12
    go_wp2_with fail
    refine (rightR_any total w).mono ?_
    rintro e w1 ⟨rfl, rfl⟩
    go_wp2_with fail
    go_ret2
    exact ⟨none, 0, 0, by rw [HE.out]; rfl, by rw [HE.out]; exact OwnS.nilRow _ _, Below.refl _ _⟩
end Go.Proofs.Ytmdmgmddblokoaa
