/- The document's fund: Full, Given, Phase, Held, each by its walk. -/
import Derived.Test.YtoeoneiopcagfaaFundG
import Derived.Test.YtoeoneiopcagfaaFundK
namespace Go.Proofs.Ytoeoneiopcagfaa
open Go.RowKit

def boolE : El Bool := ⟨4, 1, fun x => [.bool x]⟩
theorem boolE_ok : boolE.Ok := ⟨fun _ => rfl, by decide, fun x u hu => by simp [boolE] at hu; subst hu; rfl⟩
theorem sTB : SliceT Try.prog 38 boolE.e (.bool false) boolE.size 1 := ⟨Try.underlying38, by kernel_rfl, rfl, by decide⟩
theorem RdS.bool {w : World} {ao : Option Addr} {n c : Nat} {l : List Bool} (h : RdS boolE w ao n c l) {i : Nat} {x : Bool} (hx : l[i]? = some x) : ∃ b o, ao = some ⟨b, o, none⟩ ∧ w.cell? ⟨b, o + i, none⟩ = some (.bool x) := by
  obtain ⟨b, o, e, hc⟩ := h.cell boolE_ok hx (j := 0) rfl
  exact ⟨b, o, e, by simpa [boolE] using hc⟩

/-- A fund of the document: its two lists, to be read. -/
structure RefP (w : World) (so : Option Addr) (n sc : Nat) (lo : Option Addr) (lc : Nat) (f : FundX) : Prop where
  st : RdS intE w so n sc f.stakes
  la : RdS boolE w lo n lc f.laid
theorem RefP.below {w w' : World} {so lo : Option Addr} {n sc lc : Nat} {f : FundX} (h : RefP w so n sc lo lc f) (hb : Below w.heap.size w w') : RefP w' so n sc lo lc f := ⟨h.st.below hb, h.la.below hb⟩

theorem box_cells {w : World} {b : Nat} {x0 x1 x2 : Value} (h : w.heap[b]? = some (.cells #[x0, x1, x2] 40 (0, 0))) :
    w.cell? ⟨b, 0, none⟩ = some x0 ∧ w.cell? ⟨b, 1, none⟩ = some x1 ∧ w.cell? ⟨b, 2, none⟩ = some x2 ∧ (∀ k, w.frozen? ⟨b, k, none⟩ = false) :=
  ⟨by unfold World.cell?; rw [h]; rfl, by unfold World.cell?; rw [h]; rfl, by unfold World.cell?; rw [h]; rfl, fun k => frozen_of_row _ _ _ _ _ h⟩

set_option maxRecDepth 100000 in
set_option maxHeartbeats 4000000 in
theorem fullR_any {w : World} {so lo : Option Addr} {n sc lc : Nat} {f : FundX} (h : RefP w so n sc lo lc f) (hn : n ≤ 8) :
    Calls Try.prog 34 #[.agg #[.slice so n sc, .slice lo n lc, .int .i64 f.due]] w fun e w' => e = .returned (.bool (fullF f)) ∧ Below w.heap.size w w' := by
  have hl := h.la.len
  have hb0 := below_alloc w (.cells #[.slice so n sc, .slice lo n lc, .int .i64 f.due] 40 (0, 0))
  obtain ⟨c0, c1, c2, _⟩ := box_cells (heap_alloc_new w (.cells #[.slice so n sc, .slice lo n lc, .int .i64 f.due] 40 (0, 0)))
  have h0 := h.below hb0
  have HL := hide hl
  clear hl
  go_enter Try.func34, Try.ntmps34
  go_wp2_with fail
  generalize w.alloc (.cells #[.slice so n sc, .slice lo n lc, .int .i64 f.due] 40 (0, 0)) = W0 at *
  go_loopw [3] (fun v3 wr => ∃ i : Nat, v3 = .int .i64 i ∧ i ≤ n ∧ Hidden ((f.laid.take i).all id = true) ∧ W0 = wr) (fun v3 _ => n - (intOf v3).toNat)
  case atStart => exact ⟨0, rfl, Nat.zero_le _, hide (by simp), by first | rfl | trivial⟩
  case round =>
    obtain ⟨i, rfl, hin, ht, rfl⟩ := hrel
    by_cases hlt : i < n
    · have hx : f.laid[i]? = some (f.laid.getD i false) := getD_some (by rw [HL.out]; exact hlt)
      obtain ⟨b, o, rfl, c3⟩ := h0.la.bool hx
      have iI : (i : Int) < n := by omega
      have HX := hide hx
      clear hx
      cases hv : f.laid.getD i false
      · rw [hv] at c3
        have HV := hide hv
        clear hv
        go_wp2_with fail
        go_ret
        refine ⟨?_, hb0⟩
        have : fullF f = false := by
          unfold fullF
          rw [List.all_eq_false]
          exact ⟨false, List.mem_of_getElem? (by rw [HX.out, HV.out]), by simp⟩
        rw [this]; rfl
      · rw [hv] at c3
        have HV := hide hv
        clear hv
        go_wp2_with fail
        go_roundw
        case rel => exact ⟨i + 1, by simp, by omega, hide (by rw [List.take_add_one, HX.out, HV.out]; simp [ht.out]), by first | rfl | trivial⟩
        case measure => simp [intOf]; omega
    · have hl : f.laid.take i = f.laid := List.take_of_length_le (by rw [HL.out]; omega)
      have hf : fullF f = true := by have := ht.out; rw [hl] at this; exact this
      have HF := hide hf
      clear hl hf
      go_wp2_with fail
      go_ret
      exact ⟨by rw [HF.out]; rfl, hb0⟩

set_option maxRecDepth 100000 in
set_option maxHeartbeats 4000000 in
theorem givenR_any {w : World} {so lo : Option Addr} {n sc lc : Nat} {f : FundX} {seat : Int} (h : RefP w so n sc lo lc f) (hk : f.Ok) :
    Calls Try.prog 37 #[.agg #[.slice so n sc, .slice lo n lc, .int .i64 f.due], .int .i64 seat] w fun e w' => e = .returned (.int .i64 (givenF f seat)) ∧ Below w.heap.size w w' := by
  have hs := h.st.len
  have hb0 := below_alloc w (.cells #[.slice so n sc, .slice lo n lc, .int .i64 f.due] 40 (0, 0))
  obtain ⟨c0, c1, c2, _⟩ := box_cells (heap_alloc_new w (.cells #[.slice so n sc, .slice lo n lc, .int .i64 f.due] 40 (0, 0)))
  have h0 := h.below hb0
  have hc : (seat < 0 ∧ givenF f seat = 0) ∨ (0 ≤ seat ∧ (n : Int) ≤ seat ∧ givenF f seat = 0) ∨ (∃ k : Nat, seat = k ∧ k < n) := by
    rcases Int.lt_or_le seat 0 with h | h
    · left; refine ⟨h, ?_⟩; unfold givenF thereF; rw [if_neg]; simp; omega
    · rcases Int.lt_or_le seat (n : Int) with h2 | h2
      · right; right; exact ⟨seat.toNat, by omega, by omega⟩
      · right; left; refine ⟨h, h2, ?_⟩; unfold givenF thereF; rw [hs, if_neg]; simp; omega
  rcases hc with ⟨t1, e⟩ | ⟨t1, t2, e⟩ | ⟨k, rfl, hkn⟩
  · rw [e]
    clear e hs
    go_enter Try.func37, Try.ntmps37
    go_wp2_with fail
    go_ret
    exact ⟨rfl, hb0⟩
  · rw [e]
    clear e hs
    go_enter Try.func37, Try.ntmps37
    go_wp2_with fail
    go_ret
    exact ⟨rfl, hb0⟩
  · have hkl : k < f.stakes.length := by rw [hs]; exact hkn
    have hk2 : k < f.laid.length := by rw [hk.len]; exact hkl
    have hg : givenF f k = if f.laid.getD k false = true then f.stakes.getD k 0 else 0 := by
      unfold givenF; rw [if_pos (there_iff.2 ⟨k, rfl, hkl⟩)]; exact givens_at hk hkl
    rw [hg]
    clear hg
    obtain ⟨b, o, rfl, c3⟩ := h0.la.bool (getD_some hk2)
    obtain ⟨b2, o2, rfl, c4⟩ := h0.st.int (getD_some (d := 0) hkl)
    have iI : (k : Int) < n := by omega
    generalize f.stakes.getD k 0 = z at *
    cases t2 : f.laid.getD k false
    · rw [t2] at c3
      clear t2
      simp only [Bool.false_eq_true, if_false]
      go_enter Try.func37, Try.ntmps37
      go_wp2_with fail
      go_ret
      exact ⟨rfl, hb0⟩
    · rw [t2] at c3
      clear t2
      simp only [if_true]
      go_enter Try.func37, Try.ntmps37
      go_wp2_with fail
      go_ret
      exact ⟨rfl, hb0⟩

set_option maxRecDepth 100000 in
set_option maxHeartbeats 4000000 in
theorem phaseR_any {w : World} {so lo : Option Addr} {n sc lc : Nat} {f : FundX} {now : Int} (h : RefP w so n sc lo lc f) (hn : n ≤ 8) :
    Calls Try.prog 35 #[.agg #[.slice so n sc, .slice lo n lc, .int .i64 f.due], .int .i64 now] w fun e w' => e = .returned (.int .i64 (phaseF f now)) ∧ Below w.heap.size w w' := by
  have hb0 := below_alloc w (.cells #[.slice so n sc, .slice lo n lc, .int .i64 f.due] 40 (0, 0))
  have hz := heap_alloc_new w (.cells #[.slice so n sc, .slice lo n lc, .int .i64 f.due] 40 (0, 0))
  obtain ⟨c0, c1, c2, _⟩ := box_cells hz
  have h0 := h.below hb0
  have hc : (fullF f = true ∧ phaseF f now = 1) ∨ (fullF f = false ∧ f.due < now ∧ phaseF f now = 2) ∨ (fullF f = false ∧ now ≤ f.due ∧ phaseF f now = 0) := by
    unfold phaseF
    cases h1 : fullF f
    · right
      rcases Int.lt_or_le f.due now with h2 | h2
      · left; exact ⟨rfl, h2, by simp [h2]⟩
      · right; exact ⟨rfl, h2, by simp; omega⟩
    · left; exact ⟨rfl, by simp⟩
  rcases hc with ⟨t1, e⟩ | ⟨t1, t2, e⟩ | ⟨t1, t2, e⟩
  all_goals
    rw [e]
    have hfu := fullR_any h0 hn
    rw [t1] at hfu
    clear e t1
    go_enter Try.func35, Try.ntmps35
    go_wp2_with fail
    refine hfu.mono ?_
    rintro e w1 ⟨rfl, hb1⟩
    have hz1 := box_cells (by rw [hb1.block _ (lt_of_block hz)]; exact hz)
    obtain ⟨d0, d1, d2, _⟩ := hz1
    go_wp2_with fail
    go_ret
    exact ⟨rfl, below_trans hb0 hb1⟩

set_option maxRecDepth 100000 in
set_option maxHeartbeats 4000000 in
theorem heldR_any {w : World} {so lo : Option Addr} {n sc lc : Nat} {f : FundX} (h : RefP w so n sc lo lc f) (hk : f.Ok) :
    Calls Try.prog 36 #[.agg #[.slice so n sc, .slice lo n lc, .int .i64 f.due]] w fun e w' => e = .returned (.int .i64 (heldF f)) ∧ Below w.heap.size w w' := by
  obtain ⟨g1, g2⟩ := givens_pos hk
  have hs := hk.sum
  have hst := h.st.len
  have hm := hk.most
  rw [hst] at hm
  have n8 : (n : Int) ≤ 8 := by omega
  have hg := givens_len hk
  rw [hst] at hg
  have HG := hide hg
  have HP := hide g1
  have HST := hide hst
  clear hg g1 hst
  have hb0 := below_alloc w (.cells #[.slice so n sc, .slice lo n lc, .int .i64 f.due] 40 (0, 0))
  have hz := heap_alloc_new w (.cells #[.slice so n sc, .slice lo n lc, .int .i64 f.due] 40 (0, 0))
  have h0 := h.below hb0
  obtain ⟨c0, c1, c2, _⟩ := box_cells hz
  go_enter Try.func36, Try.ntmps36
  go_wp2_with fail
  generalize w.alloc (.cells #[.slice so n sc, .slice lo n lc, .int .i64 f.due] 40 (0, 0)) = W0 at *
  have hzl := lt_of_block hz
  clear c0 c1 c2
  go_loopw [3, 4] (fun v3 v4 wr => ∃ (i : Nat), v3 = .int .i64 ((givens f).take i).sum ∧ v4 = .int .i64 i ∧ i ≤ n ∧ Below W0.heap.size W0 wr) (fun _ v4 _ => n - (intOf v4).toNat)
  case atStart => exact ⟨0, by simp, rfl, Nat.zero_le _, Below.refl _ _⟩
  case round =>
    obtain ⟨i, rfl, rfl, hin, hbb⟩ := hrel
    obtain ⟨s0, s1⟩ := sum_take_pos (givens f) i HP.out
    obtain ⟨d0, d1, d2, _⟩ := box_cells (by rw [hbb.block _ hzl]; exact hz)
    by_cases hlt : i < n
    · have hx : (givens f)[i]? = some ((givens f).getD i 0) := getD_some (by rw [HG.out]; exact hlt)
      have e2 : ((givens f).take (i + 1)).sum = ((givens f).take i).sum + (givens f).getD i 0 := by rw [List.take_add_one, hx]; simp
      have e3 : givenF f (i : Int) = (givens f).getD i 0 := by unfold givenF; rw [if_pos (there_iff.2 ⟨i, rfl, by rw [HST.out]; exact hlt⟩)]; rfl
      obtain ⟨q0, q1⟩ := sum_take_pos (givens f) (i + 1) HP.out
      have q2 : 0 ≤ (givens f).getD i 0 := HP.out _ (List.mem_of_getElem? hx)
      have q3 : (givens f).getD i 0 ≤ 1125899906842624 := by omega
      have H2 := hide e2
      have hgv := givenR_any (seat := (i : Int)) (h0.below hbb) hk
      rw [e3] at hgv
      have HGV := hide hgv
      have hsi : ((givens f).take i).sum ≤ 1125899906842624 := by omega
      have iI : (i : Int) < n := by omega
      clear e2 e3 hx hgv
      rw [H2.out] at q0 q1
      generalize ((givens f).take i).sum = sm at *
      generalize (givens f).getD i 0 = z at *
      clear s1 q1
      go_wp2_with fail
      refine HGV.out.mono ?_
      rintro e w5 ⟨rfl, hb5⟩
      go_wp2_with fail
      go_roundw
      case rel => exact ⟨i + 1, by rw [H2.out], by simp, by omega, below_trans hbb hb5⟩
      case measure => simp [intOf]; omega
    · have hl : (givens f).take i = givens f := List.take_of_length_le (by rw [HG.out]; omega)
      rw [hl]
      have HH := hide (show heldF f = (givens f).sum from rfl)
      clear hl
      generalize (givens f).sum = sm at *
      go_wp2_with fail
      go_ret
      exact ⟨by rw [HH.out]; rfl, below_trans hb0 hbb⟩
end Go.Proofs.Ytoeoneiopcagfaa
