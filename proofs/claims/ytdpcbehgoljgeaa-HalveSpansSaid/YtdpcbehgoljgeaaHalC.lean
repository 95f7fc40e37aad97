/- The trials of the layer halve: Choose. -/
import Derived.Test.YtdpcbehgoljgeaaHalB
import Derived.BigRegion
import Derived.StillTailTactics
namespace Go.Proofs.Ytdpcbehgoljgeaa
open Go.RowKit

/-- What choosing a half makes of a trial, and the error. -/
def chooseF (t : Tri) (first : Bool) : Tri × Nat := if askedF t 1 false ≠ 0 then (t, askedF t 1 false) else
  if first then ({ t with steps := t.steps / 2, behind := t.mid, told := false, mid := dig0 }, 0) else ({ t with fro := t.fro + t.steps / 2, steps := t.steps / 2, ahead := t.mid, told := false, mid := dig0 }, 0)

theorem digL_one (d : Dig) : ∀ v ∈ digL d, v.oneCell' = true := fun v hv => by
  obtain ⟨x, _, rfl⟩ := List.mem_map.1 hv
  rfl
theorem spanL_one (f s : Nat) (a b : Dig) : (spanL f s a b).toArray.all (·.oneCell') = true := all_oneCell_toArray fun v hv => by
  simp only [spanL, List.mem_append, List.mem_cons, List.not_mem_nil, or_false] at hv
  rcases hv with (rfl | rfl) | hv | hv
  · rfl
  · rfl
  · exact digL_one _ _ hv
  · exact digL_one _ _ hv
theorem spanL_size (f s : Nat) (a b : Dig) : (spanL f s a b).toArray.size = 18 := by simp [spanL, digL_len]

theorem half_is (n : Nat) : ∃ k : Nat, (n : Int) / 2 = (k : Int) ∧ k = n / 2 := ⟨n / 2, by omega, rfl⟩

set_option maxRecDepth 100000 in
set_option maxHeartbeats 4000000 in
theorem choose1_any {w : World} {base g : Nat} {t : Tri} (h : TriP w base g t) (h0 : askedF t 1 false = 0) (hs : (t.steps : Int) ≤ 4294967296) :
    Calls Try.prog 9 #[.pointer (some ⟨g, 0, none⟩), .bool true] w fun e w' => e = .returned (.int .i64 0) ∧ TriP w' base g { t with steps := t.steps / 2, behind := t.mid, told := false, mid := dig0 } ∧ w.grownBy w' (some g) := by
  have c0 := h.c_fro
  have c1 := h.c_steps
  obtain ⟨fro, steps, ahead, behind, prog, size, mid, told, won⟩ := t
  dsimp only at c0 c1 hs
  obtain ⟨k, hk, hk2⟩ := half_is steps
  obtain ⟨a0, a1, a2, a3, a4, a5, a6, a7, ha⟩ := dig_ex ahead
  obtain ⟨m0, m1, m2, m3, m4, m5, m6, m7, hm⟩ := dig_ex mid
  have hA := h.r_ahead
  have hM := h.r_mid
  dsimp only at hA hM ⊢
  rw [ha] at hA
  rw [hm] at hM
  have e0 := hA 0 _ rfl
  have e1 := hA 1 _ rfl
  have e2 := hA 2 _ rfl
  have e3 := hA 3 _ rfl
  have e4 := hA 4 _ rfl
  have e5 := hA 5 _ rfl
  have e6 := hA 6 _ rfl
  have e7 := hA 7 _ rfl
  have n0 := hM 0 _ rfl
  have n1 := hM 1 _ rfl
  have n2 := hM 2 _ rfl
  have n3 := hM 3 _ rfl
  have n4 := hM 4 _ rfl
  have n5 := hM 5 _ rfl
  have n6 := hM 6 _ rfl
  have n7 := hM 7 _ rfl
  simp only [Nat.reduceAdd, Extern.Stop.cell] at e0 e1 e2 e3 e4 e5 e6 e7 n0 n1 n2 n3 n4 n5 n6 n7
  clear hA hM
  have H := hide h
  have HA := hide ha
  have HM := hide hm
  have E0 := hide h0
  rw [← hk2]
  clear h ha hm hk2
  go_enter Try.func9, Try.ntmps9
  go_wp2_with fail
  refine (asked_any H.out).mono ?_
  rintro e w1 ⟨rfl, rfl⟩
  rw [h0]
  clear h0
  go_wp2_with fail
  go_still_tail 19, (by kernel_rfl)
  change wpList _ _ _ _ _ w.drew
  have hbd : Below w.heap.size w w.drew := (Below.refl _ _).drew
  have h1 := H.out.below hbd
  have hg1 := grown_of_below hbd (some g)
  clear hbd e0 e1 e2 e3 e4 e5 e6 e7 n0 n1 n2 n3 n4 n5 n6 n7 c0 c1
  generalize w.drew = W1 at *
  have h2 := h1.setSpan fro k ahead mid
  have hg2 := grown_trans hg1 (grown_setCells g (spanL fro k ahead mid) 0 W1)
  refine wpList_store_mid rfl 43 _ _ rfl g 0 (spanL fro k ahead mid).toArray rfl ?_ ?_ ?_ ?_ ?_
  · rw [HA.out, HM.out]; rfl
  · exact h1.there 0 _ (by simp [spanL, digL_len])
  · rw [spanL_size]; rfl
  · exact spanL_one _ _ _ _
  dsimp only at h2
  generalize W1.setCells g 0 (spanL fro k ahead mid) = W2 at *
  have ht := h2.there 27 8 (by omega)
  have h3 := h2.setMid dig0
  have hg3 := grown_trans hg2 (grown_setCells g (digL dig0) 27 W2)
  obtain ⟨W3, hW3⟩ : ∃ W3, W2.setCells g 27 (digL dig0) = W3 := ⟨_, rfl⟩
  rw [hW3] at h3 hg3
  have c1 := h3.c_told
  have f1 := frozen_of_row W3 g 35 _ _ h3.hh
  dsimp only at c1
  go_wp2_with (first | (refine wl_store dig0 ht rfl _ _ rfl rfl rfl ?_; rw [hW3]))
  go_ret
  exact ⟨rfl, h3.setTold false, grown_trans hg3 (grown_setCell _ _ _)⟩
set_option maxRecDepth 100000 in
set_option maxHeartbeats 4000000 in
theorem choose2_any {w : World} {base g : Nat} {t : Tri} (h : TriP w base g t) (h0 : askedF t 1 false = 0) (hs : (t.steps : Int) ≤ 4294967296) (hf : (t.fro : Int) ≤ 4294967296) :
    Calls Try.prog 9 #[.pointer (some ⟨g, 0, none⟩), .bool false] w fun e w' => e = .returned (.int .i64 0) ∧ TriP w' base g { t with fro := t.fro + t.steps / 2, steps := t.steps / 2, ahead := t.mid, told := false, mid := dig0 } ∧ w.grownBy w' (some g) := by
  have c0 := h.c_fro
  have c1 := h.c_steps
  obtain ⟨fro, steps, ahead, behind, prog, size, mid, told, won⟩ := t
  dsimp only at c0 c1 hs hf
  obtain ⟨k, hk, hk2⟩ := half_is steps
  obtain ⟨a0, a1, a2, a3, a4, a5, a6, a7, ha⟩ := dig_ex behind
  obtain ⟨m0, m1, m2, m3, m4, m5, m6, m7, hm⟩ := dig_ex mid
  have hA := h.r_behind
  have hM := h.r_mid
  dsimp only at hA hM ⊢
  rw [ha] at hA
  rw [hm] at hM
  have e0 := hA 0 _ rfl
  have e1 := hA 1 _ rfl
  have e2 := hA 2 _ rfl
  have e3 := hA 3 _ rfl
  have e4 := hA 4 _ rfl
  have e5 := hA 5 _ rfl
  have e6 := hA 6 _ rfl
  have e7 := hA 7 _ rfl
  have n0 := hM 0 _ rfl
  have n1 := hM 1 _ rfl
  have n2 := hM 2 _ rfl
  have n3 := hM 3 _ rfl
  have n4 := hM 4 _ rfl
  have n5 := hM 5 _ rfl
  have n6 := hM 6 _ rfl
  have n7 := hM 7 _ rfl
  simp only [Nat.reduceAdd, Extern.Stop.cell] at e0 e1 e2 e3 e4 e5 e6 e7 n0 n1 n2 n3 n4 n5 n6 n7
  clear hA hM
  have H := hide h
  have HA := hide ha
  have HM := hide hm
  have E0 := hide h0
  rw [← hk2]
  clear h ha hm hk2
  go_enter Try.func9, Try.ntmps9
  go_wp2_with fail
  refine (asked_any H.out).mono ?_
  rintro e w1 ⟨rfl, rfl⟩
  rw [h0]
  clear h0
  have hkf : (k : Int) ≤ 4294967296 := by omega
  have hwr : IntKind.i64.wrap ((fro : Int) + (k : Int)) = (fro : Int) + (k : Int) := by go_arith
  go_wp2_with fail
  go_still_tail 21, (by kernel_rfl)
  change wpList _ _ _ _ _ w.drew
  have hbd : Below w.heap.size w w.drew := (Below.refl _ _).drew
  have h1 := H.out.below hbd
  have hg1 := grown_of_below hbd (some g)
  clear hbd e0 e1 e2 e3 e4 e5 e6 e7 n0 n1 n2 n3 n4 n5 n6 n7 c0 c1
  generalize w.drew = W1 at *
  have h2 := h1.setSpan (fro + k) k mid behind
  have hg2 := grown_trans hg1 (grown_setCells g (spanL (fro + k) k mid behind) 0 W1)
  refine wpList_store_mid rfl 43 _ _ rfl g 0 (spanL (fro + k) k mid behind).toArray rfl ?_ ?_ ?_ ?_ ?_
  · rw [HA.out, HM.out]; rfl
  · exact h1.there 0 _ (by simp [spanL, digL_len])
  · rw [spanL_size]; rfl
  · exact spanL_one _ _ _ _
  dsimp only at h2
  generalize W1.setCells g 0 (spanL (fro + k) k mid behind) = W2 at *
  have ht := h2.there 27 8 (by omega)
  have h3 := h2.setMid dig0
  have hg3 := grown_trans hg2 (grown_setCells g (digL dig0) 27 W2)
  obtain ⟨W3, hW3⟩ : ∃ W3, W2.setCells g 27 (digL dig0) = W3 := ⟨_, rfl⟩
  rw [hW3] at h3 hg3
  have c1 := h3.c_told
  have f1 := frozen_of_row W3 g 35 _ _ h3.hh
  dsimp only at c1
  go_wp2_with (first | (refine wl_store dig0 ht rfl _ _ rfl rfl rfl ?_; rw [hW3]))
  go_ret
  exact ⟨rfl, h3.setTold false, grown_trans hg3 (grown_setCell _ _ _)⟩
/-- What choosing a half makes of a trial, and the error. -/
theorem choose0_any {w : World} {base g : Nat} {t : Tri} {f : Bool} (h : TriP w base g t) (h0 : (((askedF t 1 false : Nat) : Int) != 0) = true) :
    Calls Try.prog 9 #[.pointer (some ⟨g, 0, none⟩), .bool f] w fun e w' => e = .returned (.int .i64 (askedF t 1 false : Nat)) ∧ w = w' := by
  go_enter Try.func9, Try.ntmps9
  go_wp2_with fail
  refine (asked_any h).mono ?_
  rintro e w1 ⟨rfl, rfl⟩
  go_wp2_with fail
  go_ret
  exact ⟨rfl, rfl⟩

theorem choose_any {w : World} {base g : Nat} {t : Tri} {f : Bool} (h : TriP w base g t) (hs : (t.steps : Int) ≤ 4294967296) (hf : (t.fro : Int) ≤ 4294967296) :
    Calls Try.prog 9 #[.pointer (some ⟨g, 0, none⟩), .bool f] w fun e w' => e = .returned (.int .i64 ((chooseF t f).2 : Nat)) ∧ TriP w' base g (chooseF t f).1 ∧ w.grownBy w' (some g) := by
  unfold chooseF
  by_cases h0 : askedF t 1 false = 0
  · rw [if_neg (by simpa using h0)]
    cases f
    · exact (choose2_any h h0 hs hf).mono fun e w' h => by simpa using h
    · exact (choose1_any h h0 hs).mono fun e w' h => by simpa using h
  · rw [if_pos h0]
    exact (choose0_any h (by simpa using h0)).mono fun e w' ⟨h1, h2⟩ => by subst h2; exact ⟨h1, h, grown_of_below (Below.refl _ _) _⟩

end Go.Proofs.Ytdpcbehgoljgeaa
