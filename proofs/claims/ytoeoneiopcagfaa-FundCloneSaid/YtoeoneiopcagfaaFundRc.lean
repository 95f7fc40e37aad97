/- The document's fund: New, by its walk. -/
import Derived.Test.YtoeoneiopcagfaaFundRb
import Derived.Deep.RegionLaw
import Derived.Deep.OwnRows
namespace Go.Proofs.Ytoeoneiopcagfaa
open Go.RowKit

def goodF (x : Int) : Bool := okA x && !(x == 0)

set_option maxRecDepth 100000 in
set_option maxHeartbeats 4000000 in
theorem newFR_no {w : World} {ao : Option Addr} {n c : Nat} {l : List Int} {due : Int} (hR : RdS intE w ao n c l) (hn : n ≤ 140737488351232) (h : newFErr l due ≠ 0) :
    Calls Try.prog 18 #[.slice ao n c, .int .i64 due] w fun e w' => e = .returned (.tuple #[.agg #[.slice none 0 0, .slice none 0 0, .int .i64 0], .int .i64 (newFErr l due)]) ∧ Below w.heap.size w w' := by
  have hc := newF_no h
  rw [hR.len] at hc
  clear h
  have hb0 := below_alloc w (.cells #[.slice none 0 0, .slice none 0 0, .int .i64 0] 40 (0, 0))
  have zA := heap_alloc_new w (.cells #[.slice none 0 0, .slice none 0 0, .int .i64 0] 40 (0, 0))
  have hput := box_put zA (.slice none 0 0) (.slice none 0 0) (.int .i64 0)
  have hgr := box_grown (w.alloc (.cells #[.slice none 0 0, .slice none 0 0, .int .i64 0] 40 (0, 0))) w.heap.size (.slice none 0 0) (.slice none 0 0) (.int .i64 0)
  have hbf := hb0.grown hgr hb0.size (fun k hk => by cases hk; exact Nat.le_refl _)
  have hR0 := hR.below hb0
  have hc2 : (n < 2 ∧ newFErr l due = 1) ∨ (8 < n ∧ newFErr l due = 1) ∨ (2 ≤ n ∧ n ≤ 8 ∧ newFErr l due = 2 ∧ (((sumF 0 l).2 != 0) = true ∨ ((sumF 0 l).2 = 0 ∧ 0 ∈ l) ∨ ((sumF 0 l).2 = 0 ∧ due < 0) ∨ ((sumF 0 l).2 = 0 ∧ 0 ≤ due ∧ 1099511627776 < due))) := by
    rcases hc with ⟨t1, e⟩ | ⟨t1, e⟩ | ⟨t1, t2, t3, e⟩ | ⟨t1, t2, t3, t4, e⟩ | ⟨t1, t2, t3, t4, t5, e⟩ | ⟨t1, t2, t3, t4, t5, t6, e⟩
    · exact .inl ⟨t1, e⟩
    · exact .inr (.inl ⟨t1, e⟩)
    · exact .inr (.inr ⟨t1, t2, e, .inl t3⟩)
    · exact .inr (.inr ⟨t1, t2, e, .inr (.inl ⟨t3, t4⟩)⟩)
    · exact .inr (.inr ⟨t1, t2, e, .inr (.inr (.inl ⟨t3, t5⟩))⟩)
    · exact .inr (.inr ⟨t1, t2, e, .inr (.inr (.inr ⟨t3, t5, t6⟩))⟩)
  clear hc
  rcases hc2 with ⟨t1, e⟩ | ⟨t1, e⟩ | ⟨t1, t2, e, hc⟩
  · have u1 : (n : Int) < 2 := by omega
    rw [e]
    clear e
    obtain ⟨v0, v1, v2, _⟩ := box_cells hput
    obtain ⟨c0, c1, c2, c3⟩ := box_cells zA
    have g0 := c3 0
    have g1 := c3 1
    have g2 := c3 2
    go_enter Try.func18, Try.ntmps18
    go_wp2_with fail
    exact bodyPost_ret (v := .tuple #[.agg #[.slice none 0 0, .slice none 0 0, .int .i64 0], .int .i64 1]) (by simp [results, Try.results18, asAddr, go_sem, v0, v1, v2]) rfl ⟨rfl, by first | exact hbf | exact hb0⟩
  · have u1 : (8 : Int) < n := by omega
    rw [e]
    clear e
    obtain ⟨v0, v1, v2, _⟩ := box_cells hput
    obtain ⟨c0, c1, c2, c3⟩ := box_cells zA
    have g0 := c3 0
    have g1 := c3 1
    have g2 := c3 2
    go_enter Try.func18, Try.ntmps18
    go_wp2_with fail
    exact bodyPost_ret (v := .tuple #[.agg #[.slice none 0 0, .slice none 0 0, .int .i64 0], .int .i64 1]) (by simp [results, Try.results18, asAddr, go_sem, v0, v1, v2]) rfl ⟨rfl, by first | exact hbf | exact hb0⟩
  · have u1 : (2 : Int) ≤ n := by omega
    have u2 : (n : Int) ≤ 8 := by omega
    rw [e]
    have HC := hide hc
    have HL := hide hR.len
    have HN := hide hn
    clear e hc hn
    go_enter Try.func18, Try.ntmps18
    go_upto_region 3 with fail
    generalize w.alloc (.cells #[.slice none 0 0, .slice none 0 0, .int .i64 0] 40 (0, 0)) = W0 at *
    obtain ⟨v0, v1, v2, _⟩ := box_cells hput
    obtain ⟨c0, c1, c2, c3⟩ := box_cells zA
    have g0 := c3 0
    have g1 := c3 1
    have g2 := c3 2
    go_wp2_with fail
    go_loopw [6] (fun v6 wr => ∃ i : Nat, v6 = .int .i64 i ∧ i ≤ n ∧ Hidden ((l.take i).all goodF = true) ∧ W0 = wr) (fun v6 _ => n - (intOf v6).toNat)
    case atStart => exact ⟨0, rfl, Nat.zero_le _, hide (by simp), by first | rfl | trivial⟩
    case round =>
      obtain ⟨i, rfl, hin, ht, rfl⟩ := hrel
      by_cases hlt : i < n
      · have hx : l[i]? = some (l.getD i 0) := getD_some (by rw [HL.out]; exact hlt)
        obtain ⟨b, o, rfl, c4⟩ := hR0.int hx
        have iI : (i : Int) < n := by omega
        have HX := hide hx
        clear hx
        generalize l.getD i 0 = x at *
        cases hok : okA x
        · have hra := rightR_any x W0
          rw [hok] at hra
          have HRA := hide hra
          clear hra hok
          go_wp2_with fail
          refine HRA.out.mono ?_
          rintro e w1 ⟨rfl, rfl⟩
          go_wp2_with fail
          exact bodyPost_ret (v := .tuple #[.agg #[.slice none 0 0, .slice none 0 0, .int .i64 0], .int .i64 2]) (by simp [results, Try.results18, asAddr, go_sem, v0, v1, v2]) rfl ⟨rfl, by first | exact hbf | exact hb0⟩
        · have hra := rightR_any x W0
          rw [hok] at hra
          have HRA := hide hra
          have HOK := hide hok
          clear hra hok
          cases hz : x == 0
          · go_wp2_with fail
            refine HRA.out.mono ?_
            rintro e w1 ⟨rfl, rfl⟩
            go_wp2_with fail
            go_roundw
            case rel => exact ⟨i + 1, by simp, by omega, hide (by rw [List.take_add_one, HX.out]; simp only [Option.toList_some, List.all_append, ht.out, List.all_cons, List.all_nil, Bool.and_true, Bool.true_and]; unfold goodF; rw [HOK.out, hz]; rfl), by first | rfl | trivial⟩
            case measure => simp [intOf]; omega
          · go_wp2_with fail
            refine HRA.out.mono ?_
            rintro e w1 ⟨rfl, rfl⟩
            go_wp2_with fail
            exact bodyPost_ret (v := .tuple #[.agg #[.slice none 0 0, .slice none 0 0, .int .i64 0], .int .i64 2]) (by simp [results, Try.results18, asAddr, go_sem, v0, v1, v2]) rfl ⟨rfl, by first | exact hbf | exact hb0⟩
      · have hl : l.take i = l := List.take_of_length_le (by rw [HL.out]; omega)
        have hall : ∀ x ∈ l, goodF x = true := by have := ht.out; rw [hl] at this; exact List.all_eq_true.1 this
        have HALL := hide hall
        clear hl hall
        have hsu := sumR_any hR0 HN.out
        rcases HC.out with t3 | ⟨t3, t4⟩ | ⟨t3, t5⟩ | ⟨t3, t5, t6⟩
        · generalize (sumF 0 l).1 = s1 at *
          generalize (sumF 0 l).2 = s2 at *
          have HSU := hide hsu
          clear hsu
          go_wp2_with fail
          refine HSU.out.mono ?_
          rintro e w1 ⟨rfl, rfl⟩
          go_wp2_with fail
          exact bodyPost_ret (v := .tuple #[.agg #[.slice none 0 0, .slice none 0 0, .int .i64 0], .int .i64 2]) (by simp [results, Try.results18, asAddr, go_sem, v0, v1, v2]) rfl ⟨rfl, by first | exact hbf | exact hb0⟩
        · have := HALL.out 0 t4
          cases this
        · rw [t3] at hsu
          generalize (sumF 0 l).1 = s1 at *
          have HSU := hide hsu
          clear hsu t3
          go_wp2_with fail
          refine HSU.out.mono ?_
          rintro e w1 ⟨rfl, rfl⟩
          go_wp2_with fail
          exact bodyPost_ret (v := .tuple #[.agg #[.slice none 0 0, .slice none 0 0, .int .i64 0], .int .i64 2]) (by simp [results, Try.results18, asAddr, go_sem, v0, v1, v2]) rfl ⟨rfl, by first | exact hbf | exact hb0⟩
        · rw [t3] at hsu
          generalize (sumF 0 l).1 = s1 at *
          have HSU := hide hsu
          clear hsu t3
          go_wp2_with fail
          refine HSU.out.mono ?_
          rintro e w1 ⟨rfl, rfl⟩
          go_wp2_with fail
          exact bodyPost_ret (v := .tuple #[.agg #[.slice none 0 0, .slice none 0 0, .int .i64 0], .int .i64 2]) (by simp [results, Try.results18, asAddr, go_sem, v0, v1, v2]) rfl ⟨rfl, by first | exact hbf | exact hb0⟩

/-- 'make([]bool, n)', in whatever world. -/
theorem make_bools {n : Nat} (h : n ≤ 8) : ∃ M : Array Value, (∀ W : World, (Instr.makeSlice 38 (.int .i64 n) (.int .i64 n)).run Try.prog W = .ok (.slice (some ⟨W.heap.size, 0, none⟩) n n) (W.alloc (.cells M 4))) ∧
    (∀ (W : World) (base : Nat), base ≤ W.heap.size → OwnS boolE (W.alloc (.cells M 4)) base (some ⟨W.heap.size, 0, none⟩) n n (List.replicate n false)) := by
  have h1 := fun W : World => run_make_row' (P := Try.prog) 38 4 (.bool false) 1 Try.underlying38 (by kernel_rfl) rfl .i64 .i64 n (by omega) (by omega) W
  refine ⟨madeCells #[.bool false] n, h1, fun W base hb => ?_⟩
  obtain ⟨i, hi, hzz, hsz, hby⟩ := info_parts sTB.info
  obtain ⟨w', hr, hown, _⟩ := run_makeSlice_full (P := Try.prog) W base 38 4 i (.bool false) 1 Try.underlying38 hi hzz hsz .i64 .i64 n (by omega) (by rw [hby]; omega) (by unfold maxLen; omega) hb
  rw [h1 W] at hr
  cases hr
  refine ⟨?_, by simp⟩
  rw [show (Value.bool false).cells = #[.bool false] from rfl, Nat.mul_one, toList_madeCells_one] at hown
  rw [flat_replicate (E := boolE) false rfl]
  exact hown

theorem OwnS.notAt {α : Type} {E : El α} {w : World} {base g n c : Nat} {ao : Option Addr} {l : List α} (h : OwnS E w base ao n c l) (hg : g < base) : (Value.slice ao n c).ownBlock ≠ some g := by
  cases ao with
  | none => simp [Value.ownBlock]
  | some ad =>
    obtain ⟨g2, rfl, h1, _⟩ := h.addr ad rfl
    simp [Value.ownBlock]
    omega

set_option maxRecDepth 100000 in
set_option maxHeartbeats 4000000 in
theorem newFR_ok {w : World} {ao : Option Addr} {n c : Nat} {l : List Int} {due : Int} (hR : RdS intE w ao n c l) (h : newFErr l due = 0) :
    Calls Try.prog 18 #[.slice ao n c, .int .i64 due] w fun e w' => ∃ so sc lo lc, e = .returned (.tuple #[.agg #[.slice so n sc, .slice lo n lc, .int .i64 due], .int .i64 0]) ∧
      OwnS intE w' w.heap.size so n sc l ∧ OwnS boolE w' w.heap.size lo n lc (List.replicate n false) ∧ Below w.heap.size w w' := by
  obtain ⟨t1, t2, t3, t4, t5, t6, hk⟩ := newF_ok h
  have hlen := hR.len
  rw [hlen] at t1 t2 hk
  have u1 : (2 : Int) ≤ n := by omega
  have u2 : (n : Int) ≤ 8 := by omega
  have hn : n ≤ 140737488351232 := by omega
  have hgood : ∀ x ∈ l, okA x = true ∧ (x == 0) = false := fun x hx => by
    have h1 := hk.pos x hx
    have h2 := (mem_le_sum l (fun x hx => by have := hk.pos x hx; omega)).2 x hx
    have h3 := hk.sum
    exact ⟨(okA_iff x).2 ⟨by omega, by simp at h3; omega⟩, by simp; omega⟩
  have HG := hide hgood
  have HL := hide hlen
  have HN := hide hn
  have hb0 := below_alloc w (.cells #[.slice none 0 0, .slice none 0 0, .int .i64 0] 40 (0, 0))
  have zA := heap_alloc_new w (.cells #[.slice none 0 0, .slice none 0 0, .int .i64 0] 40 (0, 0))
  have hR0 := hR.below hb0
  have hsu := sumR_any hR0 hn
  rw [t3] at hsu
  generalize (sumF 0 l).1 = s1 at *
  have HSU := hide hsu
  clear h hlen t4 hk hn hgood hsu t3
  go_enter Try.func18, Try.ntmps18
  go_upto_region 3 with fail
  generalize w.alloc (.cells #[.slice none 0 0, .slice none 0 0, .int .i64 0] 40 (0, 0)) = W0 at *
  obtain ⟨c0, c1, c2, c3⟩ := box_cells zA
  have g0 := c3 0
  have g1 := c3 1
  have g2 := c3 2
  go_wp2_with fail
  go_loopw [6] (fun v6 wr => ∃ i : Nat, v6 = .int .i64 i ∧ i ≤ n ∧ W0 = wr) (fun v6 _ => n - (intOf v6).toNat)
  case atStart => exact ⟨0, rfl, Nat.zero_le _, by first | rfl | trivial⟩
  case round =>
    obtain ⟨i, rfl, hin, rfl⟩ := hrel
    by_cases hlt : i < n
    · have hx : l[i]? = some (l.getD i 0) := getD_some (by rw [HL.out]; exact hlt)
      obtain ⟨b, o, rfl, c4⟩ := hR0.int hx
      have iI : (i : Int) < n := by omega
      obtain ⟨hok, hz⟩ := HG.out _ (List.mem_of_getElem? hx)
      clear hx
      generalize l.getD i 0 = x at *
      have hra := rightR_any x W0
      rw [hok] at hra
      have HRA := hide hra
      clear hra hok
      go_wp2_with fail
      refine HRA.out.mono ?_
      rintro e w1 ⟨rfl, rfl⟩
      go_wp2_with fail
      go_roundw
      case rel => exact ⟨i + 1, by simp, by omega, by first | rfl | trivial⟩
      case measure => simp [intOf]; omega
    · go_wp2_with fail
      refine HSU.out.mono ?_
      rintro e w1 ⟨rfl, rfl⟩
      go_upto_region 11 with fail
      obtain ⟨M, hmk, hM⟩ := make_bools t2
      have HM := hide hM
      have bE := below_alloc W0 (.cells #[] 3)
      have bM := below_alloc W0 (.cells M 4)
      have bEM := below_trans bE (below_alloc _ (.cells M 4))
      have bME := below_trans bM (below_alloc _ (.cells #[] 3))
      have hlt0 : w.heap.size < W0.heap.size := lt_of_block zA
      have hE3 : OwnS intE ((W0.alloc (.cells M 4)).alloc (.cells #[] 3)).drew W0.heap.size (some ⟨W0.heap.size + 1, 0, none⟩) 0 0 [] := by
        have h1 := (OwnS.emptyRow (E := intE) (base := W0.heap.size) (W0.alloc (.cells M 4)) (by simp)).below (w' := ((W0.alloc (.cells M 4)).alloc (.cells #[] 3)).drew) (Below.refl _ _).drew
        have h2 : (W0.alloc (.cells M 4)).heap.size = W0.heap.size + 1 := by simp
        rw [h2] at h1
        exact h1
      clear hM
      go_region_law (first
        | (refine step_app intE_ok sTI rfl (.tmp 54) (.tmp 55) rfl rfl ((OwnS.emptyRow W0 (Nat.le_refl _)).below (w' := (W0.alloc (.cells #[] 3)).drew) (Below.refl _ _).drew) rfl (hR0.below bE.drew) (by omega) (by unfold maxLen; omega) (by simp <;> omega) ?_; intro ao' c' w2 ho hg _; have hbw := bE.drew.grown hg (by simp <;> omega) (fun k hk => by simp [Value.ownBlock] at hk; omega); have hb2 := below_trans hbw (below_alloc w2 (.cells M 4)); have ho2 := ho.below (below_alloc w2 (.cells M 4)); have hM2 := HM.out w2 W0.heap.size hbw.size; have hz2 := z_keep (grown_of_below hb2 none) zA (fun e => by cases e); obtain ⟨q0, q1, q2, q3⟩ := box_cells hz2; have r0 := q3 0; have r1 := q3 1; have r2 := q3 2)
        | (refine step_app intE_ok sTI rfl (.tmp 54) (.tmp 55) rfl rfl (((OwnS.emptyRow W0 (Nat.le_refl _)).below (below_alloc _ (.cells M 4))).below (w' := ((W0.alloc (.cells #[] 3)).alloc (.cells M 4)).drew) (Below.refl _ _).drew) rfl (hR0.below bEM.drew) (by omega) (by unfold maxLen; omega) (by simp <;> omega) ?_; intro ao' c' w2 ho hg _; have hb2 := bEM.drew.grown hg (by simp <;> omega) (fun k hk => by simp [Value.ownBlock] at hk; omega); have ho2 := ho; have hM2 := ((HM.out (W0.alloc (.cells #[] 3)) W0.heap.size (by simp)).below (Below.refl _ _).drew).grown hg (.inr (by simp [Value.ownBlock])); have hM2 : OwnS boolE w2 W0.heap.size (some ⟨W0.heap.size + 1, 0, none⟩) n n (List.replicate n false) := (by simpa using hM2); have hz2 := z_keep (grown_of_below hb2 none) zA (fun e => by cases e); obtain ⟨q0, q1, q2, q3⟩ := box_cells hz2; have r0 := q3 0; have r1 := q3 1; have r2 := q3 2)
        | (refine step_app intE_ok sTI rfl (.tmp 54) (.tmp 55) rfl rfl hE3 rfl (hR0.below bME.drew) (by omega) (by unfold maxLen; omega) (by simp <;> omega) ?_; intro ao' c' w2 ho hg _; have hb2 := bME.drew.grown hg (by simp <;> omega) (fun k hk => by simp [Value.ownBlock] at hk; omega); have ho2 := ho; have hM2 := (((HM.out W0 W0.heap.size (Nat.le_refl _)).below (below_alloc (W0.alloc (.cells M 4)) (.cells #[] 3))).below (Below.refl _ _).drew).grown hg (.inr (by simp [Value.ownBlock])); have hz2 := z_keep (grown_of_below hb2 none) zA (fun e => by cases e); obtain ⟨q0, q1, q2, q3⟩ := box_cells hz2; have r0 := q3 0; have r1 := q3 1; have r2 := q3 2))
      all_goals
        go_wp2_with fail
        have hbw2 := below_trans hb0 hb2
        try simp only [List.nil_append, Nat.zero_add] at ho2
        first
          | (have hp := box_put hz2 (.slice ao' n c') (.slice (some ⟨w2.heap.size, 0, none⟩) n n) (.int .i64 due); obtain ⟨v0, v1, v2, _⟩ := box_cells hp; have hgr := box_grown (w2.alloc (.cells M 4)) w.heap.size (.slice ao' n c') (.slice (some ⟨w2.heap.size, 0, none⟩) n n) (.int .i64 due); exact bodyPost_ret (v := .tuple #[.agg #[.slice ao' n c', .slice (some ⟨w2.heap.size, 0, none⟩) n n, .int .i64 due], .int .i64 0]) (by simp [results, Try.results18, asAddr, go_sem, v0, v1, v2]) rfl ⟨ao', c', some ⟨w2.heap.size, 0, none⟩, n, rfl, (ho2.grown hgr (.inr (ho2.notAt hlt0))).mono hb0.size, (hM2.grown hgr (.inr (hM2.notAt hlt0))).mono hb0.size, hbw2.grown hgr hbw2.size (fun k hk => by cases hk; exact Nat.le_refl _)⟩)
          | (have hp := box_put hz2 (.slice ao' n c') (.slice (some ⟨(W0.heap.size + 1), 0, none⟩) n n) (.int .i64 due); obtain ⟨v0, v1, v2, _⟩ := box_cells hp; have hgr := box_grown w2 w.heap.size (.slice ao' n c') (.slice (some ⟨(W0.heap.size + 1), 0, none⟩) n n) (.int .i64 due); exact bodyPost_ret (v := .tuple #[.agg #[.slice ao' n c', .slice (some ⟨(W0.heap.size + 1), 0, none⟩) n n, .int .i64 due], .int .i64 0]) (by simp [results, Try.results18, asAddr, go_sem, v0, v1, v2]) rfl ⟨ao', c', some ⟨(W0.heap.size + 1), 0, none⟩, n, rfl, (ho2.grown hgr (.inr (ho2.notAt hlt0))).mono hb0.size, (hM2.grown hgr (.inr (hM2.notAt hlt0))).mono hb0.size, hbw2.grown hgr hbw2.size (fun k hk => by cases hk; exact Nat.le_refl _)⟩)
          | (have hp := box_put hz2 (.slice ao' n c') (.slice (some ⟨W0.heap.size, 0, none⟩) n n) (.int .i64 due); obtain ⟨v0, v1, v2, _⟩ := box_cells hp; have hgr := box_grown w2 w.heap.size (.slice ao' n c') (.slice (some ⟨W0.heap.size, 0, none⟩) n n) (.int .i64 due); exact bodyPost_ret (v := .tuple #[.agg #[.slice ao' n c', .slice (some ⟨W0.heap.size, 0, none⟩) n n, .int .i64 due], .int .i64 0]) (by simp [results, Try.results18, asAddr, go_sem, v0, v1, v2]) rfl ⟨ao', c', some ⟨W0.heap.size, 0, none⟩, n, rfl, (ho2.grown hgr (.inr (ho2.notAt hlt0))).mono hb0.size, (hM2.grown hgr (.inr (hM2.notAt hlt0))).mono hb0.size, hbw2.grown hgr hbw2.size (fun k hk => by cases hk; exact Nat.le_refl _)⟩)
end Go.Proofs.Ytoeoneiopcagfaa
