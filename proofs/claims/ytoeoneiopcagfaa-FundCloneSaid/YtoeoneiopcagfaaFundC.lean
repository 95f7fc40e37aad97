/- The layer fund: Lay, Given, Held, each by its walk. -/
import Derived.Test.YtoeoneiopcagfaaFundB
namespace Go.Proofs.Ytoeoneiopcagfaa
open Go.RowKit

theorem getD_some {α : Type} {l : List α} {k : Nat} {d : α} (h : k < l.length) : l[k]? = some (l.getD k d) := by
  rw [List.getD_eq_getElem?_getD, List.getElem?_eq_getElem h]; rfl

set_option maxRecDepth 100000 in
set_option maxHeartbeats 4000000 in
theorem lay_anyQ {w : World} {base g sc : Nat} {so : Option Addr} {f : FundX} {seat amount now : Int} (h : FundQ w base g so sc f) (hk : f.Ok) :
    Calls Try.prog 15 #[.pointer (some ⟨g, 0, none⟩), .int .i64 seat, .int .i64 amount, .int .i64 now] w fun e w' => e = .returned (.int .i64 (layF f seat amount now).2) ∧ FundQ w' base g so sc (layF f seat amount now).1 ∧ w.grownBy w' (some g) := by
  have hth := there_any (seat := seat) h
  by_cases ht : thereF f.stakes.length seat = true
  · obtain ⟨k, rfl, hkl⟩ := there_iff.1 ht
    rw [ht] at hth
    have hk2 : k < f.laid.length := by rw [hk.len]; exact hkl
    have c1 := h.c_due
    have c2 := h.c_laid hk2
    have f2 := h.free (2 + k)
    have h2 := h.setLaid hk2 true
    have c0 := h.c_stakes
    obtain ⟨b, o, rfl, c3⟩ := h.own.rd.int (getD_some (d := 0) hkl)
    have hm := hk.most
    have i8 : (k : Int) < 8 := by omega
    have il : (k : Int) < (f.stakes.length : Int) := by omega
    have hl : layF f k amount now = if f.due < now then (f, 19) else if f.laid.getD k false = true then (f, 7) else
        if amount = f.stakes.getD k 0 then ({ f with laid := f.laid.set k true }, 0) else (f, 22) := by
      unfold layF; rw [if_neg (by rw [ht]; simp)]; rfl
    rw [hl]
    clear hl ht
    generalize f.stakes.length = n at *
    by_cases t1 : f.due < now
    · rw [if_pos t1]
      go_enter Try.func15, Try.ntmps15
      go_wp2_with fail
      refine hth.mono ?_
      rintro e w1 ⟨rfl, rfl⟩
      go_wp2_with fail
      go_ret
      exact ⟨rfl, h, grown_of_below (Below.refl _ _) _⟩
    · rw [if_neg t1]
      have t1 : now ≤ f.due := by omega
      cases t2 : f.laid.getD k false
      · rw [t2] at c2
        clear t2
        simp only [Bool.false_eq_true, if_false]
        by_cases t3 : amount = f.stakes.getD k 0
        · rw [if_pos t3]
          have t4 : (amount != f.stakes.getD k 0) = false := by simp [t3]
          generalize f.stakes.getD k 0 = z at *
          clear t3
          go_enter Try.func15, Try.ntmps15
          go_wp2_with fail
          refine hth.mono ?_
          rintro e w1 ⟨rfl, rfl⟩
          go_wp2_with fail
          go_ret
          exact ⟨rfl, h2, grown_setCell _ _ _⟩
        · rw [if_neg t3]
          have t4 : (amount != f.stakes.getD k 0) = true := by simpa using t3
          generalize f.stakes.getD k 0 = z at *
          clear t3
          go_enter Try.func15, Try.ntmps15
          go_wp2_with fail
          refine hth.mono ?_
          rintro e w1 ⟨rfl, rfl⟩
          go_wp2_with fail
          go_ret
          exact ⟨rfl, h, grown_of_below (Below.refl _ _) _⟩
      · rw [t2] at c2
        clear t2
        simp only [if_true]
        go_enter Try.func15, Try.ntmps15
        go_wp2_with fail
        refine hth.mono ?_
        rintro e w1 ⟨rfl, rfl⟩
        go_wp2_with fail
        go_ret
        exact ⟨rfl, h, grown_of_below (Below.refl _ _) _⟩
  · have ht : thereF f.stakes.length seat = false := by simpa using ht
    rw [ht] at hth
    have hl : layF f seat amount now = (f, 28) := by unfold layF; rw [if_pos ht]
    rw [hl]
    clear hl ht
    go_enter Try.func15, Try.ntmps15
    go_wp2_with fail
    refine hth.mono ?_
    rintro e w1 ⟨rfl, rfl⟩
    go_wp2_with fail
    go_ret
    exact ⟨rfl, h, grown_of_below (Below.refl _ _) _⟩

theorem lay_any {w : World} {base g : Nat} {f : FundX} {seat amount now : Int} (h : FundP w base g f) (hk : f.Ok) :
    Calls Try.prog 15 #[.pointer (some ⟨g, 0, none⟩), .int .i64 seat, .int .i64 amount, .int .i64 now] w fun e w' => e = .returned (.int .i64 (layF f seat amount now).2) ∧ FundP w' base g (layF f seat amount now).1 ∧ w.grownBy w' (some g) := by
  obtain ⟨so, sc, h⟩ := h
  exact (lay_anyQ h hk).mono fun e w' ⟨h1, h2, h3⟩ => ⟨h1, ⟨so, sc, h2⟩, h3⟩

set_option maxRecDepth 100000 in
set_option maxHeartbeats 4000000 in
theorem given_any {w : World} {base g : Nat} {f : FundX} {seat : Int} (h : FundP w base g f) (hk : f.Ok) :
    Calls Try.prog 23 #[.pointer (some ⟨g, 0, none⟩), .int .i64 seat] w fun e w' => e = .returned (.int .i64 (givenF f seat)) ∧ w = w' := by
  obtain ⟨so, sc, h⟩ := h
  have hth := there_any (seat := seat) h
  by_cases ht : thereF f.stakes.length seat = true
  · obtain ⟨k, rfl, hkl⟩ := there_iff.1 ht
    rw [ht] at hth
    have hk2 : k < f.laid.length := by rw [hk.len]; exact hkl
    have c2 := h.c_laid hk2
    have c0 := h.c_stakes
    obtain ⟨b, o, rfl, c3⟩ := h.own.rd.int (getD_some (d := 0) hkl)
    have hm := hk.most
    have i8 : (k : Int) < 8 := by omega
    have il : (k : Int) < (f.stakes.length : Int) := by omega
    have hl : givenF f k = if f.laid.getD k false = true then f.stakes.getD k 0 else 0 := by
      unfold givenF; rw [if_pos ht]; exact givens_at hk hkl
    rw [hl]
    clear hl ht
    generalize f.stakes.length = n at *
    cases t2 : f.laid.getD k false
    · rw [t2] at c2
      clear t2
      simp only [Bool.false_eq_true, if_false]
      go_enter Try.func23, Try.ntmps23
      go_wp2_with fail
      refine hth.mono ?_
      rintro e w1 ⟨rfl, rfl⟩
      go_wp2_with fail
      go_ret
      exact ⟨rfl, rfl⟩
    · rw [t2] at c2
      clear t2
      simp only [if_true]
      go_enter Try.func23, Try.ntmps23
      go_wp2_with fail
      refine hth.mono ?_
      rintro e w1 ⟨rfl, rfl⟩
      go_wp2_with fail
      go_ret
      exact ⟨rfl, rfl⟩
  · have ht : thereF f.stakes.length seat = false := by simpa using ht
    rw [ht] at hth
    have hl : givenF f seat = 0 := by unfold givenF; rw [if_neg (by rw [ht]; simp)]
    rw [hl]
    clear hl ht
    go_enter Try.func23, Try.ntmps23
    go_wp2_with fail
    refine hth.mono ?_
    rintro e w1 ⟨rfl, rfl⟩
    go_wp2_with fail
    go_ret
    exact ⟨rfl, rfl⟩

theorem givens_pos {f : FundX} (hk : f.Ok) : (∀ x ∈ givens f, 0 ≤ x) ∧ (givens f).sum ≤ f.stakes.sum := by
  obtain ⟨st, due, laid⟩ := f
  have hp := hk.pos
  have hl := hk.len
  clear hk
  simp only [givens] at *
  induction st generalizing laid with
  | nil => simp
  | cons s st ih =>
    cases laid with
    | nil => simp at hl
    | cons b laid =>
      have h1 := hp s (List.mem_cons_self ..)
      obtain ⟨i1, i2⟩ := ih laid (fun x hx => hp x (List.mem_cons_of_mem _ hx)) (by simpa using hl)
      refine ⟨fun x hx => ?_, ?_⟩
      · rcases List.mem_cons.1 hx with hx | hx
        · rw [hx]; cases b <;> simp <;> omega
        · exact i1 x hx
      · simp only [List.zipWith_cons_cons, List.sum_cons]
        cases b <;> simp <;> omega

theorem sum_take_pos : ∀ (l : List Int) (i : Nat), (∀ x ∈ l, 0 ≤ x) → 0 ≤ (l.take i).sum ∧ (l.take i).sum ≤ l.sum
  | [], i, _ => by simp
  | x :: l, 0, h => by
    have := (mem_le_sum (x :: l) h).1
    simp at this ⊢; omega
  | x :: l, i + 1, h => by
    have h1 := sum_take_pos l i (fun y hy => h y (List.mem_cons_of_mem _ hy))
    have h2 := h x (List.mem_cons_self ..)
    simp; omega

set_option maxRecDepth 100000 in
set_option maxHeartbeats 4000000 in
theorem held_any {w : World} {base g : Nat} {f : FundX} (h : FundP w base g f) (hk : f.Ok) :
    Calls Try.prog 24 #[.pointer (some ⟨g, 0, none⟩)] w fun e w' => e = .returned (.int .i64 (heldF f)) ∧ Below w.heap.size w w' := by
  obtain ⟨g1, g2⟩ := givens_pos hk
  have hs := hk.sum
  have hg := givens_len hk
  have hm := hk.most
  have HG := hide hg
  have HP := hide g1
  clear hg g1
  go_enter Try.func24, Try.ntmps24
  go_wp2_with fail
  refine (stakes_any h hk).mono ?_
  rintro e w1 ⟨ao, c, rfl, ho, hb⟩
  have h := h.below hb
  go_wp2_with fail
  go_loopw [3, 8] (fun v3 v8 wr => ∃ (i : Nat), v3 = .int .i64 ((givens f).take i).sum ∧ v8 = .int .i64 i ∧ i ≤ f.stakes.length ∧ w1 = wr) (fun _ v8 _ => f.stakes.length - (intOf v8).toNat)
  case atStart => exact ⟨0, by simp, rfl, Nat.zero_le _, by first | rfl | trivial⟩
  case round =>
    obtain ⟨i, rfl, rfl, hin, rfl⟩ := hrel
    obtain ⟨s0, s1⟩ := sum_take_pos (givens f) i HP.out
    by_cases hlt : i < f.stakes.length
    · have hx : (givens f)[i]? = some ((givens f).getD i 0) := getD_some (by rw [HG.out]; exact hlt)
      have e2 : ((givens f).take (i + 1)).sum = ((givens f).take i).sum + (givens f).getD i 0 := by rw [List.take_add_one, hx]; simp
      have e3 : givenF f (i : Int) = (givens f).getD i 0 := by unfold givenF; rw [if_pos (there_iff.2 ⟨i, rfl, hlt⟩)]; rfl
      obtain ⟨q0, q1⟩ := sum_take_pos (givens f) (i + 1) HP.out
      have q2 : 0 ≤ (givens f).getD i 0 := HP.out _ (List.mem_of_getElem? hx)
      have q3 : (givens f).getD i 0 ≤ 1125899906842624 := by omega
      have H2 := hide e2
      have H3 := hide e3
      clear e2 e3 hx q0 q1
      generalize ((givens f).take i).sum = sm at *
      have s2 : sm ≤ 1125899906842624 := by omega
      clear s1
      go_wp2_with fail
      refine (given_any (seat := (i : Int)) h hk).mono ?_
      rintro e w2 ⟨rfl, rfl⟩
      rw [H3.out]
      generalize (givens f).getD i 0 = z at *
      go_wp2_with fail
      go_roundw
      case rel => exact ⟨i + 1, by rw [H2.out], by simp, by omega, by first | rfl | trivial⟩
      case measure => simp [intOf]; omega
    · have hl : (givens f).take i = givens f := List.take_of_length_le (by rw [HG.out]; omega)
      rw [hl] at s0 s1 ⊢
      clear hl
      generalize hh : (givens f).sum = sm at *
      have HH := hide hh
      clear hh
      go_wp2_with fail
      go_ret
      exact ⟨by unfold heldF; rw [HH.out]; rfl, hb⟩
end Go.Proofs.Ytoeoneiopcagfaa
