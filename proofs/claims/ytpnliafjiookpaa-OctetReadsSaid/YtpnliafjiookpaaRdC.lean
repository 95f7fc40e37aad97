/- The reader of the layer octet: what each of its reads does to it. -/
import Derived.Test.YtpnliafjiookpaaRdB
namespace Go.Proofs.Ytpnliafjiookpaa
open Go.RowKit

/-- A reader at block g, of what is left and the first error. Its bytes lie from block base on. -/
structure Rdr (w : World) (base g : Nat) (s : List UInt8 × Nat) : Prop where
  le : base ≤ g
  ex : ∃ ao n c, w.heap[g]? = some (.cells #[.slice ao n c, .int .i64 (s.2 : Nat)] 67 (0, 0)) ∧ RdB w ao n c s.1 ∧ n ≤ 140737488355328 ∧ ∀ ad, ao = some ad → base ≤ ad.block

theorem rdr_ne {w : World} {ao : Option Addr} {n c g : Nat} {l : List UInt8} {v : Value} {e : Int} {t : TypeId} (hh : w.heap[g]? = some (.cells #[.slice ao n c, .int .i64 e] t (0, 0))) (hR : RdB w ao n c l) :
    0 < n → ∀ ad, ao = some ad → some ad.block ≠ some g := by
  intro hn ad had heq
  obtain ⟨b, o, e1, hc⟩ := hR.byte 0 hn
  subst had
  cases e1
  simp at heq
  subst heq
  unfold World.cell? at hc
  simp only [hh] at hc
  match o, hc with
  | 0, hc => simp at hc
  | 1, hc => simp at hc
  | o + 2, hc => simp at hc

theorem Rdr.keep {w w' : World} {base g : Nat} {s : List UInt8 × Nat} {row : Option Nat} (h : Rdr w base g s) (hg : w.grownBy w' row) (hrow : ∀ k, row = some k → k < base) : Rdr w' base g s := by
  obtain ⟨ao, n, c, hh, hR, hn, hb⟩ := h.ex
  have hle := h.le
  refine ⟨hle, ao, n, c, ?_, hR.grown byteE_ok hg ?_, hn, hb⟩
  · rw [hg.block g (lt_of_block hh) (fun e => by have := hrow g e.symm; omega)]
    exact hh
  · intro _ ad had e
    have := hb ad had
    have := hrow _ e.symm
    omega

theorem Rdr.below {w w' : World} {base g : Nat} {s : List UInt8 × Nat} (h : Rdr w base g s) (hb : Below w.heap.size w w') : Rdr w' base g s :=
  h.keep (grown_of_below hb none) (fun k e => by cases e)

theorem Rdr.lt {w : World} {base g : Nat} {s : List UInt8 × Nat} (h : Rdr w base g s) : g < w.heap.size := by
  obtain ⟨ao, n, c, hh, _⟩ := h.ex
  exact lt_of_block hh

/-- An error is laid. -/
theorem Rdr.fail {w : World} {base g : Nat} {s : List UInt8 × Nat} (h : Rdr w base g s) (e : Nat) : Rdr (w.setCell ⟨g, 1, none⟩ (.int .i64 (e : Nat))) base g (s.1, e) := by
  obtain ⟨ao, n, c, hh, hR, hn, hb⟩ := h.ex
  refine ⟨h.le, ao, n, c, ?_, hR.grown byteE_ok (grown_setCell _ _ _) ?_, hn, hb⟩
  · rw [heap_set hh]; rfl
  · exact fun h0 ad had => rdr_ne (v := .bool true) hh hR h0 ad had

/-- Bytes are taken. -/
theorem Rdr.took {w : World} {base g : Nat} {s : List UInt8 × Nat} {ao : Option Addr} {n c k : Nat} (h : Rdr w base g s) (hh : w.heap[g]? = some (.cells #[.slice ao n c, .int .i64 (s.2 : Nat)] 67 (0, 0))) (hk : k ≤ n) :
    Rdr (w.setCell ⟨g, 0, none⟩ (.slice (if c = k then ao else ao.map fun x => x.add k) (n - k) (c - k))) base g (s.1.drop k, s.2) := by
  obtain ⟨ao', n', c', hh', hR, hn, hb⟩ := h.ex
  rw [hh] at hh'
  simp at hh'
  obtain ⟨rfl, rfl, rfl⟩ := hh'
  have hR' := hR.dropO byteE_ok hk
  have e1 : k * byteE.size = k := Nat.mul_one k
  rw [e1] at hR'
  refine ⟨h.le, _, n - k, c - k, by rw [heap_set hh]; rfl, hR'.grown byteE_ok (grown_setCell _ _ _) ?_, by omega, ?_⟩
  · intro h0 ad had
    have h1 := rdr_ne (v := .bool true) hh hR (by omega)
    split at had
    · exact h1 ad had
    · cases ao with
      | none => simp at had
      | some a0 =>
        simp at had
        subst had
        have : (a0.add k).block = a0.block := by unfold Addr.add; split <;> rfl
        rw [this]
        exact h1 a0 rfl
  · intro ad had
    split at had
    · exact hb ad had
    · cases ao with
      | none => simp at had
      | some a0 =>
        simp at had
        subst had
        have : (a0.add k).block = a0.block := by unfold Addr.add; split <;> rfl
        rw [this]
        exact hb a0 rfl

set_option maxRecDepth 100000 in
set_option maxHeartbeats 400000 in
theorem newReader_any {ao : Option Addr} {n c : Nat} {xs : List UInt8} {w : World} (hR : RdB w ao n c xs) (hl : n ≤ 140737488355328) :
    Calls Try.prog 21 #[.slice ao n c] w fun e w' => ∃ g, e = .returned (.pointer (some ⟨g, 0, none⟩)) ∧ Rdr w' w.heap.size g (xs, 0) ∧ Below w.heap.size w w' := by
  go_enter Try.func21, Try.ntmps21
  go_wp2_with fail
  refine (clone8_any hR hl).mono ?_
  rintro e w1 ⟨a1, c1, rfl, ho, hb⟩
  go_wp2_with fail
  go_ret
  refine ⟨w1.heap.size, rfl, ⟨hb.size, a1, n, c1, heap_alloc_new _ _, ho.rd.below (below_alloc w1 _), hl, ?_⟩, below_trans hb (below_alloc w1 _)⟩
  intro ad had
  obtain ⟨g, rfl, h1, _⟩ := ho.addr ad had
  exact h1

set_option maxRecDepth 100000 in
set_option maxHeartbeats 400000 in
theorem err_any {w : World} {base g : Nat} {s : List UInt8 × Nat} (h : Rdr w base g s) :
    Calls Try.prog 24 #[.pointer (some ⟨g, 0, none⟩)] w fun e w' => e = .returned (.int .i64 (s.2 : Nat)) ∧ w = w' := by
  obtain ⟨ao, n, c, hh, hR, hn, hb⟩ := h.ex
  have c1 : w.cell? ⟨g, 1, none⟩ = some (.int .i64 (s.2 : Nat)) := by unfold World.cell?; rw [hh]; rfl
  go_enter Try.func24, Try.ntmps24
  go_wp2_with fail
  go_ret
  exact ⟨rfl, rfl⟩

set_option maxRecDepth 100000 in
set_option maxHeartbeats 400000 in
theorem left_any {w : World} {base g : Nat} {s : List UInt8 × Nat} (h : Rdr w base g s) :
    Calls Try.prog 25 #[.pointer (some ⟨g, 0, none⟩)] w fun e w' => e = .returned (.int .i64 (s.1.length : Nat)) ∧ w = w' := by
  obtain ⟨ao, n, c, hh, hR, hn, hb⟩ := h.ex
  have c1 : w.cell? ⟨g, 0, none⟩ = some (.slice ao n c) := by unfold World.cell?; rw [hh]; rfl
  have HL := hide hR.len
  go_enter Try.func25, Try.ntmps25
  go_wp2_with fail
  go_ret
  exact ⟨by rw [HL.out]; rfl, rfl⟩

theorem left_len {w : World} {base g : Nat} {s : List UInt8 × Nat} {m : Nat} (h : Rdr w base g s) (hm : s.1.length = m) :
    Calls Try.prog 25 #[.pointer (some ⟨g, 0, none⟩)] w fun e w' => e = .returned (.int .i64 m) ∧ w = w' := by
  subst hm
  exact left_any h

/-- The error at the end. -/
def endR (s : List UInt8 × Nat) : Nat := if s.2 ≠ 0 then s.2 else if 0 < s.1.length then 5 else 0

set_option maxRecDepth 100000 in
set_option maxHeartbeats 400000 in
theorem end_any {w : World} {base g : Nat} {s : List UInt8 × Nat} (h : Rdr w base g s) :
    Calls Try.prog 27 #[.pointer (some ⟨g, 0, none⟩)] w fun e w' => e = .returned (.int .i64 (endR s : Nat)) ∧ w = w' := by
  by_cases h0 : s.2 = 0
  · have h1 : ((s.2 : Int) != 0) = false := by simp [h0]
    have H0 := hide h0
    clear h0
    by_cases hl : 0 < s.1.length
    · go_enter Try.func27, Try.ntmps27
      go_wp2_with fail
      refine (err_any h).mono ?_
      rintro e w1 ⟨rfl, rfl⟩
      go_wp2_with fail
      refine (left_any h).mono ?_
      rintro e w1 ⟨rfl, rfl⟩
      go_wp2_with fail
      go_ret
      exact ⟨ret_int (by unfold endR; rw [if_neg (by simp [H0.out]), if_pos hl]; rfl), rfl⟩
    · go_enter Try.func27, Try.ntmps27
      go_wp2_with fail
      refine (err_any h).mono ?_
      rintro e w1 ⟨rfl, rfl⟩
      go_wp2_with fail
      refine (left_any h).mono ?_
      rintro e w1 ⟨rfl, rfl⟩
      go_wp2_with fail
      go_ret
      exact ⟨ret_int (by unfold endR; rw [if_neg (by simp [H0.out]), if_neg hl]; rfl), rfl⟩
  · have h1 : ((s.2 : Int) != 0) = true := by simp [h0]
    have H0 := hide h0
    clear h0
    go_enter Try.func27, Try.ntmps27
    go_wp2_with fail
    refine (err_any h).mono ?_
    rintro e w1 ⟨rfl, rfl⟩
    go_wp2_with fail
    go_ret
    exact ⟨ret_int (by unfold endR; rw [if_pos H0.out]), rfl⟩

end Go.Proofs.Ytpnliafjiookpaa
