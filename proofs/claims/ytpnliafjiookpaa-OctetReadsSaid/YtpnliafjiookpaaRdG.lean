/- The document's number of bytes: by its walk. -/
import Derived.Test.YtpnliafjiookpaaRdF
namespace Go.Proofs.Ytpnliafjiookpaa
open Go.RowKit

/-- What bytes tell, the low seven bits of each, the first one the lowest. -/
def hor : List UInt8 → Nat
  | [] => 0
  | x :: l => x.toNat % 128 + 128 * hor l

theorem hor_drop_le : ∀ (l : List UInt8) (i : Nat), hor (l.drop i) ≤ hor l
  | _, 0 => Nat.le_refl _
  | [], _ + 1 => by simp [hor]
  | x :: l, i + 1 => by
    have := hor_drop_le l i
    simp only [List.drop_succ_cons, hor]
    omega

theorem hor_snoc : ∀ (l : List UInt8) (x : UInt8), hor (l ++ [x]) = hor l + x.toNat % 128 * 128 ^ l.length
  | [], x => by simp [hor]
  | y :: l, x => by
    have := hor_snoc l x
    simp only [List.cons_append, hor, this, List.length_cons, Nat.pow_succ]
    rw [Nat.mul_add, Nat.add_assoc]
    congr 2
    rw [Nat.mul_left_comm, Nat.mul_comm 128 (128 ^ l.length)]

theorem hor_at {l : List UInt8} {k j : Nat} {x : UInt8} (hj : j < k) (h : l[j]? = some x) : hor ((l.take k).drop j) = x.toNat % 128 + 128 * hor ((l.take k).drop (j + 1)) := by
  have h1 : (l.take k)[j]? = some x := by rw [List.getElem?_take, if_pos hj]; exact h
  obtain ⟨hlt, he⟩ := List.getElem?_eq_some_iff.1 h1
  rw [List.drop_eq_getElem_cons hlt, he]
  rfl

theorem take_snoc {l : List UInt8} {k : Nat} {x : UInt8} (h : l[k]? = some x) : l.take (k + 1) = l.take k ++ [x] := by rw [List.take_add_one, h]; rfl

/-- Where the document's count stands behind k bytes, all of which told that another one follows. -/
def LeadSt (l : List UInt8) (k : Nat) : Prop := (k ≤ 9 ∧ ParseSt l k (hor (l.take k))) ∨ (k = 10 ∧ parse l = (0, 0, 3))

theorem LeadSt.start (l : List UInt8) : LeadSt l 0 := .inl ⟨by omega, ParseSt.start l⟩

theorem LeadSt.next {l : List UInt8} {k : Nat} (h : LeadSt l k) (h9 : k ≤ 9) {x : UInt8} (hx : l[k]? = some x) (hb : 128 ≤ x.toNat) : LeadSt l (k + 1) := by
  rcases h with ⟨_, hst⟩ | ⟨h, _⟩
  · by_cases h2 : k = 9 ∧ 2 ≤ x.toNat % 128
    · exact .inr ⟨by omega, hst.big hx h2.1 h2.2⟩
    · have hm := hst.more hx h9 (by omega) h2 (by omega)
      have hlen : (l.take k).length = k := by rw [List.length_take]; have := hst.1; omega
      have he : hor (l.take (k + 1)) = hor (l.take k) + x.toNat % 128 * 128 ^ k := by rw [take_snoc hx, hor_snoc, hlen]
      rw [← he] at hm
      by_cases h8 : k + 1 ≤ 9
      · exact .inl ⟨h8, hm⟩
      · have h10 : k + 1 = 10 := by omega
        refine .inr ⟨h10, ?_⟩
        rw [h10] at hm
        by_cases hl : l.length ≤ 10
        · rw [hm.ends hl, if_neg (by have := hm.1; omega)]
        · exact hm.ten (List.getElem?_eq_getElem (by omega))
  · omega

set_option maxRecDepth 100000 in
set_option maxHeartbeats 4000000 in
theorem rnumber_any {ao : Option Addr} {n c : Nat} {xs : List UInt8} {w : World} (hR : RdB w ao n c xs) (hl : n ≤ 140737488355328) :
    Calls Try.prog 40 #[.slice ao n c] w fun e w' => e = .returned (.tuple #[.int .u64 (parse xs).1, .int .i64 (parse xs).2.1, .int .i64 (parse xs).2.2]) ∧ w = w' := by
  have HL := hide hR.len
  go_enter Try.func40, Try.ntmps40
  go_wp2_with fail
  go_loopw [5] (fun v5 wr => ∃ k : Nat, v5 = .int .i64 k ∧ k ≤ n ∧ k ≤ 10 ∧ LeadSt xs k ∧ wr = w) (fun v5 _ => n - (intOf v5).toNat)
  case atStart => exact ⟨0, rfl, Nat.zero_le _, by omega, LeadSt.start xs, rfl⟩
  case round =>
    obtain ⟨k, rfl, hkn, hk10, hst, rfl⟩ := hrel
    by_cases h10 : k = 10
    · have hp : parse xs = (0, 0, 3) := by
        rcases hst with ⟨h, _⟩ | ⟨_, h⟩
        · omega
        · exact h
      have HF := hide hp
      subst h10
      clear hp hst
      by_cases hlt : 10 < n
      · have i1 : (10 : Int) < n := by omega
        go_wp2_with fail
        go_ret3
        exact ⟨fin3 HF.out, rfl⟩
      · have i1 : (n : Int) ≤ 10 := by omega
        go_wp2_with fail
        go_ret3
        exact ⟨fin3 HF.out, rfl⟩
    · have h9 : k ≤ 9 := by omega
      have j9 : (k : Int) < 10 := by omega
      have t10 : ((k : Int) == 10) = false := by simp; omega
      have hps : ParseSt xs k (hor (xs.take k)) := by
        rcases hst with ⟨_, h⟩ | ⟨h, _⟩
        · exact h
        · omega
      by_cases hlt : k < n
      · obtain ⟨b, o, rfl, hc⟩ := hR.byte k hlt
        have hb := bt_lt xs k
        have hx := bt_some (l := xs) (k := k) (by rw [hR.len]; exact hlt)
        have hxb : (UInt8.ofNat (bt xs k)).toNat = bt xs k := by simp; omega
        have i1 : (k : Int) < n := by omega
        by_cases h128 : 128 ≤ bt xs k
        · have hn := hst.next h9 hx (by rw [hxb]; exact h128)
          have j1 : (128 : Int) ≤ bt xs k := by omega
          have HN := hide hn
          clear hn hst hps hx hxb h128
          go_wp2_with fail
          go_roundw
          case rel => exact ⟨k + 1, by simp, by omega, by omega, HN.out, by first | rfl | trivial⟩
          case measure => simp [intOf]; omega
        · have j1 : (bt xs k : Int) < 128 := by omega
          by_cases hA : 0 < k ∧ bt xs k = 0
          · have HF := hide (hps.zero hx h9 (by rw [hxb]; exact hA.2) hA.1)
            obtain ⟨hA1, hA2⟩ := hA
            have j2 : (0 : Int) < k := by omega
            have j3 : ((bt xs k : Int) == 0) = true := by simp [hA2]
            have j4 : ((k : Int) == (n : Int)) = false := by simp; omega
            clear hst hps hx hxb h128 hA2
            go_wp2_with fail
            go_ret3
            exact ⟨fin3 HF.out, rfl⟩
          · by_cases hB : k = 9 ∧ 2 ≤ bt xs k
            · have HF := hide (hps.big hx hB.1 (by rw [hxb]; omega))
              obtain ⟨rfl, hB2⟩ := hB
              have j3 : ((bt xs 9 : Int) == 0) = false := by simp; omega
              have j4 : ((9 : Int) == (n : Int)) = false := by simp; omega
              have j5 : (1 : Int) < bt xs 9 := by omega
              have j6 : (9 : Int) < n := by omega
              clear hst hps hx hxb h128 hA hB2
              go_wp2_with fail
              go_ret3
              exact ⟨fin3 HF.out, rfl⟩
            · have hlast := hps.last hx h9 (by rw [hxb]; omega) (by rw [hxb]; omega) (by rw [hxb]; omega)
              have hlen : (xs.take k).length = k := by rw [List.length_take, HL.out]; omega
              have he : hor (xs.take (k + 1)) = hor (xs.take k) + (UInt8.ofNat (bt xs k)).toNat % 128 * 128 ^ k := by rw [take_snoc hx, hor_snoc, hlen]
              rw [← he] at hlast
              have hU : hor (xs.take (k + 1)) < 18446744073709551616 := by
                rcases parse_ok xs with h | h
                · rw [hlast] at h; exact absurd rfl h.1
                · rw [hlast] at h; exact h.2.1
              have HF := hide hlast
              have j4 : ((k : Int) == (n : Int)) = false := by simp; omega
              have HU := hide hU
              have hcs : ((k : Int) ≤ 0 ∧ ((k : Int) == 9) = false) ∨ (0 < k ∧ ((bt xs k : Int) == 0) = false ∧ ((k : Int) == 9) = false) ∨ (k = 9 ∧ ((bt xs k : Int) == 0) = false ∧ (bt xs k : Int) ≤ 1) := by
                by_cases h0 : k = 0
                · exact .inl ⟨by omega, by simp; omega⟩
                · have hb0 : ((bt xs k : Int) == 0) = false := by simp; omega
                  by_cases h9 : k = 9
                  · exact .inr (.inr ⟨h9, hb0, by omega⟩)
                  · exact .inr (.inl ⟨by omega, hb0, by simp; omega⟩)
              have HR := hide hR
              clear hst hps hx hxb h128 hA hB hlast hlen he hU hR
              rcases hcs with ⟨c0, c1⟩ | ⟨c0, c1, c2⟩ | ⟨rfl, c1, c2⟩
              · skip
                go_wp2_with fail
                go_loopw [6, 7] (fun v6 v7 wq => ∃ i : Nat, v6 = .int .u64 (hor ((xs.take (k + 1)).drop i) : Nat) ∧ v7 = .int .i64 ((i : Int) - 1) ∧ i ≤ k + 1 ∧ wr = wq) (fun _ v7 _ => (intOf v7 + 1).toNat)
                case atStart => exact ⟨k + 1, by rw [List.drop_of_length_le (by simp; omega)]; rfl, by simp, Nat.le_refl _, by first | rfl | trivial⟩
                case round =>
                  obtain ⟨i, rfl, rfl, hik, rfl⟩ := hrel
                  cases i with
                  | zero =>
                    rw [List.drop_zero]
                    have HE := hide HF.out
                    generalize hor (xs.take (k + 1)) = N at *
                    have j9 : (((0 : Nat) : Int) - 1) = -1 := by omega
                    rw [j9]
                    go_wp2_with fail
                    go_ret3
                    exact ⟨fin3 HE.out, rfl⟩
                  | succ j =>
                    have hjn : j < n := by omega
                    obtain ⟨b', o', e', hcj⟩ := HR.out.byte j hjn
                    cases e'
                    have hxj := bt_some (l := xs) (k := j) (by rw [HL.out]; exact hjn)
                    have hbj := bt_lt xs j
                    have hxbj : (UInt8.ofNat (bt xs j)).toNat = bt xs j := by simp; omega
                    have hst := hor_at (k := k + 1) (by omega) hxj
                    rw [hxbj] at hst
                    have hle := hor_drop_le (xs.take (k + 1)) j
                    have hU2 := HU.out
                    have j9 : (((j + 1 : Nat) : Int) - 1) = (j : Int) := by omega
                    rw [j9]
                    have HST := hide hst
                    have k1 : (128 : Int) * (hor ((xs.take (k + 1)).drop (j + 1)) : Nat) + (bt xs j % 128 : Nat) ≤ 18446744073709551615 := by omega
                    have k2 : ((bt xs j : Nat) : Int).tmod 128 = ((bt xs j % 128 : Nat) : Int) := by rw [Int.tmod_eq_emod_of_nonneg (by omega)]; omega
                    have k3 : (j : Int) < n := by omega
                    have k4 : bt xs j % 128 < 128 := Nat.mod_lt _ (by decide)
                    clear hst hle hU2 hxj hxbj j9
                    generalize hor ((xs.take (k + 1)).drop (j + 1)) = H1 at *
                    go_wp2_with fail
                    go_roundw
                    case rel => exact ⟨j, by rw [HST.out]; simp; omega, by simp, by omega, by first | rfl | trivial⟩
                    case measure => simp only [intOf]; omega
              · have c3 : (0 : Int) < k := by omega
                go_wp2_with fail
                go_loopw [6, 7] (fun v6 v7 wq => ∃ i : Nat, v6 = .int .u64 (hor ((xs.take (k + 1)).drop i) : Nat) ∧ v7 = .int .i64 ((i : Int) - 1) ∧ i ≤ k + 1 ∧ wr = wq) (fun _ v7 _ => (intOf v7 + 1).toNat)
                case atStart => exact ⟨k + 1, by rw [List.drop_of_length_le (by simp; omega)]; rfl, by simp, Nat.le_refl _, by first | rfl | trivial⟩
                case round =>
                  obtain ⟨i, rfl, rfl, hik, rfl⟩ := hrel
                  cases i with
                  | zero =>
                    rw [List.drop_zero]
                    have HE := hide HF.out
                    generalize hor (xs.take (k + 1)) = N at *
                    have j9 : (((0 : Nat) : Int) - 1) = -1 := by omega
                    rw [j9]
                    go_wp2_with fail
                    go_ret3
                    exact ⟨fin3 HE.out, rfl⟩
                  | succ j =>
                    have hjn : j < n := by omega
                    obtain ⟨b', o', e', hcj⟩ := HR.out.byte j hjn
                    cases e'
                    have hxj := bt_some (l := xs) (k := j) (by rw [HL.out]; exact hjn)
                    have hbj := bt_lt xs j
                    have hxbj : (UInt8.ofNat (bt xs j)).toNat = bt xs j := by simp; omega
                    have hst := hor_at (k := k + 1) (by omega) hxj
                    rw [hxbj] at hst
                    have hle := hor_drop_le (xs.take (k + 1)) j
                    have hU2 := HU.out
                    have j9 : (((j + 1 : Nat) : Int) - 1) = (j : Int) := by omega
                    rw [j9]
                    have HST := hide hst
                    have k1 : (128 : Int) * (hor ((xs.take (k + 1)).drop (j + 1)) : Nat) + (bt xs j % 128 : Nat) ≤ 18446744073709551615 := by omega
                    have k2 : ((bt xs j : Nat) : Int).tmod 128 = ((bt xs j % 128 : Nat) : Int) := by rw [Int.tmod_eq_emod_of_nonneg (by omega)]; omega
                    have k3 : (j : Int) < n := by omega
                    have k4 : bt xs j % 128 < 128 := Nat.mod_lt _ (by decide)
                    clear hst hle hU2 hxj hxbj j9
                    generalize hor ((xs.take (k + 1)).drop (j + 1)) = H1 at *
                    go_wp2_with fail
                    go_roundw
                    case rel => exact ⟨j, by rw [HST.out]; simp; omega, by simp, by omega, by first | rfl | trivial⟩
                    case measure => simp only [intOf]; omega
              · skip
                go_wp2_with fail
                go_loopw [6, 7] (fun v6 v7 wq => ∃ i : Nat, v6 = .int .u64 (hor ((xs.take (9 + 1)).drop i) : Nat) ∧ v7 = .int .i64 ((i : Int) - 1) ∧ i ≤ 9 + 1 ∧ wr = wq) (fun _ v7 _ => (intOf v7 + 1).toNat)
                case atStart => exact ⟨9 + 1, by rw [List.drop_of_length_le (by simp; omega)]; rfl, by simp, Nat.le_refl _, by first | rfl | trivial⟩
                case round =>
                  obtain ⟨i, rfl, rfl, hik, rfl⟩ := hrel
                  cases i with
                  | zero =>
                    rw [List.drop_zero]
                    have HE := hide HF.out
                    generalize hor (xs.take (9 + 1)) = N at *
                    have j9 : (((0 : Nat) : Int) - 1) = -1 := by omega
                    rw [j9]
                    go_wp2_with fail
                    go_ret3
                    exact ⟨fin3 HE.out, rfl⟩
                  | succ j =>
                    have hjn : j < n := by omega
                    obtain ⟨b', o', e', hcj⟩ := HR.out.byte j hjn
                    cases e'
                    have hxj := bt_some (l := xs) (k := j) (by rw [HL.out]; exact hjn)
                    have hbj := bt_lt xs j
                    have hxbj : (UInt8.ofNat (bt xs j)).toNat = bt xs j := by simp; omega
                    have hst := hor_at (k := 9 + 1) (by omega) hxj
                    rw [hxbj] at hst
                    have hle := hor_drop_le (xs.take (9 + 1)) j
                    have hU2 := HU.out
                    have j9 : (((j + 1 : Nat) : Int) - 1) = (j : Int) := by omega
                    rw [j9]
                    have HST := hide hst
                    have k1 : (128 : Int) * (hor ((xs.take (9 + 1)).drop (j + 1)) : Nat) + (bt xs j % 128 : Nat) ≤ 18446744073709551615 := by omega
                    have k2 : ((bt xs j : Nat) : Int).tmod 128 = ((bt xs j % 128 : Nat) : Int) := by rw [Int.tmod_eq_emod_of_nonneg (by omega)]; omega
                    have k3 : (j : Int) < n := by omega
                    have k4 : bt xs j % 128 < 128 := Nat.mod_lt _ (by decide)
                    clear hst hle hU2 hxj hxbj j9
                    generalize hor ((xs.take (9 + 1)).drop (j + 1)) = H1 at *
                    go_wp2_with fail
                    go_roundw
                    case rel => exact ⟨j, by rw [HST.out]; simp; omega, by simp, by omega, by first | rfl | trivial⟩
                    case measure => simp only [intOf]; omega
      · have hkk : k = n := by omega
        subst hkk
        have hp : parse xs = (0, 0, 4) := by rw [hps.ends (by rw [HL.out]; exact Nat.le_refl _), if_pos (by rw [HL.out]; omega)]
        have HF := hide hp
        have t1 : ((k : Int) == (k : Int)) = true := by simp
        clear hp hst hps
        go_wp2_with fail
        go_ret3
        exact ⟨fin3 HF.out, rfl⟩
end Go.Proofs.Ytpnliafjiookpaa
