/- The document's fund: Lay, Back, each by its walk. -/
import Derived.Test.YtoeoneiopcagfaaFundR
import Derived.Deep.RegionHeld3
namespace Go.Proofs.Ytoeoneiopcagfaa
open Go.RowKit

theorem heap_two_old (w : World) (A B : Obj) : ((w.alloc A).alloc B).heap[w.heap.size]? = some A := by
  rw [(below_alloc (w.alloc A) B).block w.heap.size (by simp)]
  exact heap_alloc_new w A

theorem z_keep {W w : World} {b : Nat} {o : Obj} {row : Option Nat} (hg : W.grownBy w row) (hz : W.heap[b]? = some o) (hne : row ≠ some b) : w.heap[b]? = some o := by
  rw [hg.block b (by rcases Nat.lt_or_ge b W.heap.size with h | h; exact h; rw [Array.getElem?_eq_none h] at hz; cases hz) (fun e => hne e.symm)]; exact hz

theorem box_put {W : World} {b : Nat} {y0 y1 y2 : Value} (h : W.heap[b]? = some (.cells #[y0, y1, y2] 40 (0, 0))) (x0 x1 x2 : Value) :
    (((W.setCell ⟨b, 0, none⟩ x0).setCell ⟨b, 1, none⟩ x1).setCell ⟨b, 2, none⟩ x2).heap[b]? = some (.cells #[x0, x1, x2] 40 (0, 0)) := by
  have h1 : (W.setCell ⟨b, 0, none⟩ x0).heap[b]? = some (.cells #[x0, y1, y2] 40 (0, 0)) := by rw [heap_set h]; rfl
  have h2 : ((W.setCell ⟨b, 0, none⟩ x0).setCell ⟨b, 1, none⟩ x1).heap[b]? = some (.cells #[x0, x1, y2] 40 (0, 0)) := by rw [heap_set h1]; rfl
  rw [heap_set h2]; rfl
theorem box_grown (W : World) (b : Nat) (x0 x1 x2 : Value) : W.grownBy (((W.setCell ⟨b, 0, none⟩ x0).setCell ⟨b, 1, none⟩ x1).setCell ⟨b, 2, none⟩ x2) (some b) :=
  grown_trans (grown_trans (grown_setCell W ⟨b, 0, none⟩ x0) (grown_setCell _ ⟨b, 1, none⟩ x1)) (grown_setCell _ ⟨b, 2, none⟩ x2)

theorem lay_cases {f : FundX} (hk : f.Ok) {n : Nat} (hn : f.stakes.length = n) (seat amount now : Int) :
    (seat < 0 ∧ layF f seat amount now = (f, 28)) ∨ (0 ≤ seat ∧ (n : Int) ≤ seat ∧ layF f seat amount now = (f, 28)) ∨
    ∃ k : Nat, seat = k ∧ k < n ∧ ((f.due < now ∧ layF f k amount now = (f, 19)) ∨ (now ≤ f.due ∧ f.laid.getD k false = true ∧ layF f k amount now = (f, 7)) ∨
      (now ≤ f.due ∧ f.laid.getD k false = false ∧ (amount != f.stakes.getD k 0) = true ∧ layF f k amount now = (f, 22)) ∨
      (now ≤ f.due ∧ f.laid.getD k false = false ∧ (amount != f.stakes.getD k 0) = false ∧ layF f k amount now = ({ f with laid := f.laid.set k true }, 0))) := by
  rcases Int.lt_or_le seat 0 with h | h
  · left; refine ⟨h, ?_⟩; unfold layF thereF; rw [if_pos]; simp; omega
  · rcases Int.lt_or_le seat (n : Int) with h2 | h2
    · right; right
      refine ⟨seat.toNat, by omega, by omega, ?_⟩
      have ht : thereF f.stakes.length (seat.toNat : Int) = true := there_iff.2 ⟨seat.toNat, rfl, by omega⟩
      unfold layF
      rw [ht]
      simp only [Bool.true_eq_false, if_false, Int.toNat_natCast]
      rcases Int.lt_or_le f.due now with h3 | h3
      · left; exact ⟨h3, by rw [if_pos h3]⟩
      · right
        rw [if_neg (by omega)]
        cases h4 : f.laid.getD seat.toNat false
        · right
          by_cases h5 : amount = f.stakes.getD seat.toNat 0
          · right; exact ⟨h3, rfl, by simp [h5], by rw [if_neg (by simp), if_pos h5]⟩
          · left; exact ⟨h3, rfl, by simpa using h5, by rw [if_neg (by simp), if_neg h5]⟩
        · left; exact ⟨h3, rfl, by rw [if_pos rfl]⟩
    · right; left; refine ⟨h, h2, ?_⟩; unfold layF thereF; rw [hn, if_pos]; simp; omega

theorem back_cases {f : FundX} (hk : f.Ok) {n : Nat} (hn : f.stakes.length = n) (seat : Int) :
    (seat < 0 ∧ backF f seat = (f, 0, 28)) ∨ (0 ≤ seat ∧ (n : Int) ≤ seat ∧ backF f seat = (f, 0, 28)) ∨
    ∃ k : Nat, seat = k ∧ k < n ∧ ((f.laid.getD k false = false ∧ backF f k = (f, 0, 9)) ∨ (f.laid.getD k false = true ∧ fullF f = true ∧ backF f k = (f, 0, 10)) ∨
      (f.laid.getD k false = true ∧ fullF f = false ∧ backF f k = ({ f with laid := f.laid.set k false }, f.stakes.getD k 0, 0))) := by
  rcases Int.lt_or_le seat 0 with h | h
  · left; refine ⟨h, ?_⟩; unfold backF thereF; rw [if_pos]; simp; omega
  · rcases Int.lt_or_le seat (n : Int) with h2 | h2
    · right; right
      refine ⟨seat.toNat, by omega, by omega, ?_⟩
      have ht : thereF f.stakes.length (seat.toNat : Int) = true := there_iff.2 ⟨seat.toNat, rfl, by omega⟩
      unfold backF
      rw [ht]
      simp only [Bool.true_eq_false, if_false, Int.toNat_natCast]
      cases h4 : f.laid.getD seat.toNat false
      · left; exact ⟨rfl, by rw [if_pos rfl]⟩
      · right
        cases h5 : fullF f
        · right; exact ⟨rfl, rfl, by simp⟩
        · left; exact ⟨rfl, rfl, by simp⟩
    · right; left; refine ⟨h, h2, ?_⟩; unfold backF thereF; rw [hn, if_pos]; simp; omega

/-- What Lay and Back leave: the fund's list of what is laid is the caller's own still. -/
def RefR (f : FundX) (base : Nat) (so : Option Addr) (n sc : Nat) (more : List Value) (w : World) (e : Ending) (w' : World) : Prop :=
  ∃ (lo : Option Addr) (lc : Nat), e = .returned (.tuple (#[.agg #[.slice so n sc, .slice lo n lc, .int .i64 f.due]] ++ more.toArray)) ∧ OwnS boolE w' base lo n lc f.laid ∧ Below w.heap.size w w'

theorem OwnS.later' {α : Type} {E : El α} {w : World} {base g n c : Nat} {ao : Option Addr} {l : List α} (h : OwnS E w base ao n c l) (hg : w.heap.size ≤ g) : (Value.slice ao n c).ownBlock ≠ some g := by
  cases ao with
  | none => simp [Value.ownBlock]
  | some ad =>
    obtain ⟨g2, rfl, _, h2⟩ := h.addr ad rfl
    simp [Value.ownBlock]
    omega

set_option maxRecDepth 100000 in
set_option maxHeartbeats 4000000 in
theorem layR_any {w : World} {so lo : Option Addr} {base n sc lc : Nat} {f : FundX} {seat amount now : Int} (hS : RdS intE w so n sc f.stakes) (hL : OwnS boolE w base lo n lc f.laid) (hbase : base ≤ w.heap.size) (hk : f.Ok) :
    Calls Try.prog 21 #[.agg #[.slice so n sc, .slice lo n lc, .int .i64 f.due], .int .i64 seat, .int .i64 amount, .int .i64 now] w (RefR (layF f seat amount now).1 base so n sc [.int .i64 (layF f seat amount now).2] w) := by
  have hc := lay_cases hk hS.len seat amount now
  have hm := hk.most
  have hll := hk.len
  rw [hS.len] at hm hll
  have HS := hide hS.len
  have HLL := hide hll
  have hne := hL.later' (Nat.le_succ w.heap.size)
  have hb0 : Below w.heap.size w ((w.alloc (.cells #[.slice so n sc, .slice lo n lc, .int .i64 f.due] 40 (0, 0))).alloc (.cells #[.slice none 0 0, .slice none 0 0, .int .i64 0] 40 (0, 0))) := below_trans (below_alloc w _) (below_alloc _ _)
  have zA := heap_two_old w (.cells #[.slice so n sc, .slice lo n lc, .int .i64 f.due] 40 (0, 0)) (.cells #[.slice none 0 0, .slice none 0 0, .int .i64 0] 40 (0, 0))
  have zB := heap_two_new w (.cells #[.slice so n sc, .slice lo n lc, .int .i64 f.due] 40 (0, 0)) (.cells #[.slice none 0 0, .slice none 0 0, .int .i64 0] 40 (0, 0))
  have hs2 : ((w.alloc (.cells #[.slice so n sc, .slice lo n lc, .int .i64 f.due] 40 (0, 0))).alloc (.cells #[.slice none 0 0, .slice none 0 0, .int .i64 0] 40 (0, 0))).heap.size = w.heap.size + 2 := by simp
  have HS2 := hide hs2
  have HB := hide hbase
  have HN := hide hne
  clear hs2 hbase hne hll
  have hSw := hS.below hb0
  have hLw := hL.below hb0
  rcases hc with ⟨t1, e⟩ | ⟨t1, t2, e⟩ | ⟨k, rfl, hkn, hc⟩
  · rw [e]
    clear e
    go_enter Try.func21, Try.ntmps21
    go_upto_region 1 with fail
    generalize (w.alloc (.cells #[.slice so n sc, .slice lo n lc, .int .i64 f.due] 40 (0, 0))).alloc (.cells #[.slice none 0 0, .slice none 0 0, .int .i64 0] 40 (0, 0)) = W0 at *
    obtain ⟨c0, c1, c2, _⟩ := box_cells zA
    obtain ⟨d0, d1, d2, d3⟩ := box_cells zB
    have g0 := d3 0
    have g1 := d3 1
    have g2 := d3 2
    obtain ⟨v0, v1, v2, _⟩ := box_cells (box_put zB (.slice so n sc) (.slice lo n lc) (.int .i64 f.due))
    have hgr := box_grown W0 (w.heap.size + 1) (.slice so n sc) (.slice lo n lc) (.int .i64 f.due)
    go_wp2_with fail
    refine bodyPost_ret (v := .tuple #[.agg #[.slice so n sc, .slice lo n lc, .int .i64 f.due], .int .i64 28]) (by simp [results, Try.results21, asAddr, go_sem, v0, v1, v2]) rfl ⟨lo, lc, rfl, hLw.grown hgr (.inr HN.out), hb0.grown hgr hb0.size (fun k hk => by cases hk; exact Nat.le_succ _)⟩
  · rw [e]
    clear e
    go_enter Try.func21, Try.ntmps21
    go_upto_region 1 with fail
    generalize (w.alloc (.cells #[.slice so n sc, .slice lo n lc, .int .i64 f.due] 40 (0, 0))).alloc (.cells #[.slice none 0 0, .slice none 0 0, .int .i64 0] 40 (0, 0)) = W0 at *
    obtain ⟨c0, c1, c2, _⟩ := box_cells zA
    obtain ⟨d0, d1, d2, d3⟩ := box_cells zB
    have g0 := d3 0
    have g1 := d3 1
    have g2 := d3 2
    obtain ⟨v0, v1, v2, _⟩ := box_cells (box_put zB (.slice so n sc) (.slice lo n lc) (.int .i64 f.due))
    have hgr := box_grown W0 (w.heap.size + 1) (.slice so n sc) (.slice lo n lc) (.int .i64 f.due)
    go_wp2_with fail
    refine bodyPost_ret (v := .tuple #[.agg #[.slice so n sc, .slice lo n lc, .int .i64 f.due], .int .i64 28]) (by simp [results, Try.results21, asAddr, go_sem, v0, v1, v2]) rfl ⟨lo, lc, rfl, hLw.grown hgr (.inr HN.out), hb0.grown hgr hb0.size (fun k hk => by cases hk; exact Nat.le_succ _)⟩
  · have iI : (k : Int) < n := by omega
    have hkl : k < f.stakes.length := by rw [HS.out]; exact hkn
    have hk2 : k < f.laid.length := by rw [HLL.out]; exact hkn
    have HX := hide (getD_some (d := false) hk2)
    have HY := hide (getD_some (d := 0) hkl)
    clear hkl hk2
    rcases hc with ⟨t1, e⟩ | ⟨t1, t2, e⟩ | ⟨t1, t2, t3, e⟩ | ⟨t1, t2, t3, e⟩
    · rw [e]
      clear e
      go_enter Try.func21, Try.ntmps21
      go_upto_region 1 with fail
      generalize (w.alloc (.cells #[.slice so n sc, .slice lo n lc, .int .i64 f.due] 40 (0, 0))).alloc (.cells #[.slice none 0 0, .slice none 0 0, .int .i64 0] 40 (0, 0)) = W0 at *
      obtain ⟨c0, c1, c2, _⟩ := box_cells zA
      obtain ⟨d0, d1, d2, d3⟩ := box_cells zB
      have g0 := d3 0
      have g1 := d3 1
      have g2 := d3 2
      obtain ⟨v0, v1, v2, _⟩ := box_cells (box_put zB (.slice so n sc) (.slice lo n lc) (.int .i64 f.due))
      have hgr := box_grown W0 (w.heap.size + 1) (.slice so n sc) (.slice lo n lc) (.int .i64 f.due)
      go_wp2_with fail
      refine bodyPost_ret (v := .tuple #[.agg #[.slice so n sc, .slice lo n lc, .int .i64 f.due], .int .i64 19]) (by simp [results, Try.results21, asAddr, go_sem, v0, v1, v2]) rfl ⟨lo, lc, rfl, hLw.grown hgr (.inr HN.out), hb0.grown hgr hb0.size (fun k hk => by cases hk; exact Nat.le_succ _)⟩
    · rw [e]
      clear e
      go_enter Try.func21, Try.ntmps21
      go_upto_region 1 with fail
      generalize (w.alloc (.cells #[.slice so n sc, .slice lo n lc, .int .i64 f.due] 40 (0, 0))).alloc (.cells #[.slice none 0 0, .slice none 0 0, .int .i64 0] 40 (0, 0)) = W0 at *
      obtain ⟨c0, c1, c2, _⟩ := box_cells zA
      obtain ⟨d0, d1, d2, d3⟩ := box_cells zB
      have g0 := d3 0
      have g1 := d3 1
      have g2 := d3 2
      obtain ⟨b, ob, rfl, c3⟩ := hLw.rd.bool HX.out
      obtain ⟨b', eb, _, _⟩ := hLw.addr _ rfl
      cases eb
      rw [t2, Nat.zero_add] at c3
      clear t2
      obtain ⟨v0, v1, v2, _⟩ := box_cells (box_put zB (.slice so n sc) (.slice (some ⟨b, 0, none⟩) n lc) (.int .i64 f.due))
      have hgr := box_grown W0 (w.heap.size + 1) (.slice so n sc) (.slice (some ⟨b, 0, none⟩) n lc) (.int .i64 f.due)
      go_wp2_with fail
      refine bodyPost_ret (v := .tuple #[.agg #[.slice so n sc, .slice (some ⟨b, 0, none⟩) n lc, .int .i64 f.due], .int .i64 7]) (by simp [results, Try.results21, asAddr, go_sem, v0, v1, v2]) rfl ⟨(some ⟨b, 0, none⟩), lc, rfl, hLw.grown hgr (.inr HN.out), hb0.grown hgr hb0.size (fun k hk => by cases hk; exact Nat.le_succ _)⟩
    · rw [e]
      clear e
      go_enter Try.func21, Try.ntmps21
      go_upto_region 1 with fail
      generalize (w.alloc (.cells #[.slice so n sc, .slice lo n lc, .int .i64 f.due] 40 (0, 0))).alloc (.cells #[.slice none 0 0, .slice none 0 0, .int .i64 0] 40 (0, 0)) = W0 at *
      obtain ⟨c0, c1, c2, _⟩ := box_cells zA
      obtain ⟨d0, d1, d2, d3⟩ := box_cells zB
      have g0 := d3 0
      have g1 := d3 1
      have g2 := d3 2
      obtain ⟨b, ob, rfl, c3⟩ := hLw.rd.bool HX.out
      obtain ⟨b', eb, _, _⟩ := hLw.addr _ rfl
      cases eb
      rw [t2, Nat.zero_add] at c3
      clear t2
      obtain ⟨b2, o2, rfl, c4⟩ := hSw.int HY.out
      generalize f.stakes.getD k 0 = z at *
      obtain ⟨v0, v1, v2, _⟩ := box_cells (box_put zB (.slice (some ⟨b2, o2, none⟩) n sc) (.slice (some ⟨b, 0, none⟩) n lc) (.int .i64 f.due))
      have hgr := box_grown W0 (w.heap.size + 1) (.slice (some ⟨b2, o2, none⟩) n sc) (.slice (some ⟨b, 0, none⟩) n lc) (.int .i64 f.due)
      go_wp2_with fail
      refine bodyPost_ret (v := .tuple #[.agg #[.slice (some ⟨b2, o2, none⟩) n sc, .slice (some ⟨b, 0, none⟩) n lc, .int .i64 f.due], .int .i64 22]) (by simp [results, Try.results21, asAddr, go_sem, v0, v1, v2]) rfl ⟨(some ⟨b, 0, none⟩), lc, rfl, hLw.grown hgr (.inr HN.out), hb0.grown hgr hb0.size (fun k hk => by cases hk; exact Nat.le_succ _)⟩
    · rw [e]
      clear e
      go_enter Try.func21, Try.ntmps21
      go_upto_region 1 with fail
      generalize (w.alloc (.cells #[.slice so n sc, .slice lo n lc, .int .i64 f.due] 40 (0, 0))).alloc (.cells #[.slice none 0 0, .slice none 0 0, .int .i64 0] 40 (0, 0)) = W0 at *
      obtain ⟨c0, c1, c2, _⟩ := box_cells zA
      obtain ⟨d0, d1, d2, d3⟩ := box_cells zB
      have g0 := d3 0
      have g1 := d3 1
      have g2 := d3 2
      have T2 := hide t2
      obtain ⟨b, ob, rfl, c3⟩ := hLw.rd.bool HX.out
      obtain ⟨b', eb, _, _⟩ := hLw.addr _ rfl
      cases eb
      rw [t2, Nat.zero_add] at c3
      clear t2
      obtain ⟨b2, o2, rfl, c4⟩ := hSw.int HY.out
      generalize f.stakes.getD k 0 = z at *
      go_upto_region 9 with fail
      have bE := below_alloc W0 (.cells #[] 4)
      have hle0 : w.heap.size + 2 ≤ W0.heap.size := by have := HS2.out; omega
      obtain ⟨e0, e1, e2, e3⟩ := box_cells (z_keep (grown_of_below bE none) zA (fun e => by cases e))
      have e4 := e3 1
      go_wp2_with (at_builtin; refine wpList_app boolE_ok sTB rfl (.tmp 39) (.tmp 41) rfl rfl (OwnS.emptyRow W0 (Nat.le_refl _)) rfl (hLw.rd.below bE) (by omega) (by unfold maxLen; omega) (by simp) ?_)
      intro lo' lc' w2 ho hg hnil
      have hb2 := bE.grown hg (by simp) (fun k hk => by simp [Value.ownBlock] at hk; omega)
      have zA2 := z_keep (grown_of_below hb2 none) zA (fun e => by cases e)
      have zB2 := z_keep (grown_of_below hb2 none) zB (fun e => by cases e)
      obtain ⟨gl, rfl⟩ : ∃ gl, lo' = some ⟨gl, 0, none⟩ := by
        cases lo' with
        | none => have := hnil rfl; omega
        | some ad => obtain ⟨g2, e, _, _⟩ := ho.addr ad rfl; exact ⟨g2, congrArg some e⟩
      obtain ⟨gl', eg, hgl, _⟩ := ho.addr _ rfl
      cases eg
      have hg3 := grown_setCell w2 ⟨w.heap.size, 1, none⟩ (.slice (some ⟨gl, 0, none⟩) n lc')
      have zA3 : (w2.setCell ⟨w.heap.size, 1, none⟩ (.slice (some ⟨gl, 0, none⟩) n lc')).heap[w.heap.size]? = some (.cells #[.slice (some ⟨b2, o2, none⟩) n sc, .slice (some ⟨gl, 0, none⟩) n lc', .int .i64 f.due] 40 (0, 0)) := by rw [heap_set zA2]; rfl
      have zB3 := z_keep hg3 zB2 (fun e => by have := Option.some.inj e; simp at this)
      have ho3 := ho.grown hg3 (.inr (fun e => by simp [Value.ownBlock] at e; omega))
      have hb3 := hb2.size
      obtain ⟨e0, e1, e2, e3⟩ := box_cells zA2
      have e4 := e3 1
      clear e3
      go_upto_region 10 with fail
      generalize w2.setCell ⟨w.heap.size, 1, none⟩ (.slice (some ⟨gl, 0, none⟩) n lc') = W3 at *
      obtain ⟨x0, x1, x2, _⟩ := box_cells zA3
      have hx3 := ho3.cell boolE_ok HX.out (j := 0) rfl
      have hx3 : W3.cell? ⟨gl, k, none⟩ = some (.bool false) := by rw [T2.out] at hx3; simpa [boolE] using hx3
      have hf3 := ho3.free k
      have ho4 := ho3.put1 k true (u := .bool true) (fun _ => rfl) rfl
      have hg4 := grown_setCell W3 ⟨gl, k, none⟩ (.bool true)
      have zA4 := z_keep hg4 zA3 (fun e => by have := Option.some.inj e; simp at this; omega)
      have zB4 := z_keep hg4 zB3 (fun e => by have := Option.some.inj e; simp at this; omega)
      go_upto_region 11 with fail
      generalize W3.setCell ⟨gl, k, none⟩ (.bool true) = W4 at *
      clear e0 e1 e2 e4 x0 x1 x2 hx3 hf3 c0 c1 c2 d0 d1 d2 d3 g0 g1 g2
      try clear c3
      obtain ⟨x0, x1, x2, _⟩ := box_cells zA4
      obtain ⟨y0, y1, y2, y3⟩ := box_cells zB4
      have g0 := y3 0
      have g1 := y3 1
      have g2 := y3 2
      have hput := box_put zB4 (.slice (some ⟨b2, o2, none⟩) n sc) (.slice (some ⟨gl, 0, none⟩) n lc') (.int .i64 f.due)
      obtain ⟨v0, v1, v2, _⟩ := box_cells hput
      have hgr := box_grown W4 (w.heap.size + 1) (.slice (some ⟨b2, o2, none⟩) n sc) (.slice (some ⟨gl, 0, none⟩) n lc') (.int .i64 f.due)
      have hbw2 := below_trans hb0 hb2
      have hbw3 := hbw2.grown hg3 hbw2.size (fun k hk => by cases hk; exact Nat.le_refl _)
      have hbw4 := hbw3.grown hg4 hbw3.size (fun k hk => by cases hk; show w.heap.size ≤ gl; omega)
      go_wp2_with fail
      refine bodyPost_ret (v := .tuple #[.agg #[.slice (some ⟨b2, o2, none⟩) n sc, .slice (some ⟨gl, 0, none⟩) n lc', .int .i64 f.due], .int .i64 0]) (by simp [results, Try.results21, asAddr, go_sem, v0, v1, v2]) rfl ⟨some ⟨gl, 0, none⟩, lc', rfl, (ho4.grown hgr (.inr (fun e => by simp [Value.ownBlock] at e; omega))).mono (by have := HB.out; omega), hbw4.grown hgr hbw4.size (fun k hk => by cases hk; exact Nat.le_succ _)⟩

set_option maxRecDepth 100000 in
set_option maxHeartbeats 4000000 in
theorem backR_any {w : World} {so lo : Option Addr} {base n sc lc : Nat} {f : FundX} {seat : Int} (hS : RdS intE w so n sc f.stakes) (hL : OwnS boolE w base lo n lc f.laid) (hbase : base ≤ w.heap.size) (hk : f.Ok) :
    Calls Try.prog 20 #[.agg #[.slice so n sc, .slice lo n lc, .int .i64 f.due], .int .i64 seat] w (RefR (backF f seat).1 base so n sc [.int .i64 (backF f seat).2.1, .int .i64 (backF f seat).2.2] w) := by
  have hc := back_cases hk hS.len seat
  have hm := hk.most
  have hll := hk.len
  rw [hS.len] at hm hll
  have HS := hide hS.len
  have HLL := hide hll
  have hne := hL.later' (Nat.le_succ w.heap.size)
  have hb0 : Below w.heap.size w ((w.alloc (.cells #[.slice so n sc, .slice lo n lc, .int .i64 f.due] 40 (0, 0))).alloc (.cells #[.slice none 0 0, .slice none 0 0, .int .i64 0] 40 (0, 0))) := below_trans (below_alloc w _) (below_alloc _ _)
  have zA := heap_two_old w (.cells #[.slice so n sc, .slice lo n lc, .int .i64 f.due] 40 (0, 0)) (.cells #[.slice none 0 0, .slice none 0 0, .int .i64 0] 40 (0, 0))
  have zB := heap_two_new w (.cells #[.slice so n sc, .slice lo n lc, .int .i64 f.due] 40 (0, 0)) (.cells #[.slice none 0 0, .slice none 0 0, .int .i64 0] 40 (0, 0))
  have hs2 : ((w.alloc (.cells #[.slice so n sc, .slice lo n lc, .int .i64 f.due] 40 (0, 0))).alloc (.cells #[.slice none 0 0, .slice none 0 0, .int .i64 0] 40 (0, 0))).heap.size = w.heap.size + 2 := by simp
  have HS2 := hide hs2
  have HB := hide hbase
  have HN := hide hne
  clear hs2 hbase hne hll
  have hSw := hS.below hb0
  have hLw := hL.below hb0
  rcases hc with ⟨t1, e⟩ | ⟨t1, t2, e⟩ | ⟨k, rfl, hkn, hc⟩
  · rw [e]
    clear e
    go_enter Try.func20, Try.ntmps20
    go_upto_region 1 with fail
    generalize (w.alloc (.cells #[.slice so n sc, .slice lo n lc, .int .i64 f.due] 40 (0, 0))).alloc (.cells #[.slice none 0 0, .slice none 0 0, .int .i64 0] 40 (0, 0)) = W0 at *
    obtain ⟨c0, c1, c2, _⟩ := box_cells zA
    obtain ⟨d0, d1, d2, d3⟩ := box_cells zB
    have g0 := d3 0
    have g1 := d3 1
    have g2 := d3 2
    obtain ⟨v0, v1, v2, _⟩ := box_cells (box_put zB (.slice so n sc) (.slice lo n lc) (.int .i64 f.due))
    have hgr := box_grown W0 (w.heap.size + 1) (.slice so n sc) (.slice lo n lc) (.int .i64 f.due)
    go_wp2_with fail
    refine bodyPost_ret (v := .tuple #[.agg #[.slice so n sc, .slice lo n lc, .int .i64 f.due], .int .i64 0, .int .i64 28]) (by simp [results, Try.results20, asAddr, go_sem, v0, v1, v2]) rfl ⟨lo, lc, rfl, hLw.grown hgr (.inr HN.out), hb0.grown hgr hb0.size (fun k hk => by cases hk; exact Nat.le_succ _)⟩
  · rw [e]
    clear e
    go_enter Try.func20, Try.ntmps20
    go_upto_region 1 with fail
    generalize (w.alloc (.cells #[.slice so n sc, .slice lo n lc, .int .i64 f.due] 40 (0, 0))).alloc (.cells #[.slice none 0 0, .slice none 0 0, .int .i64 0] 40 (0, 0)) = W0 at *
    obtain ⟨c0, c1, c2, _⟩ := box_cells zA
    obtain ⟨d0, d1, d2, d3⟩ := box_cells zB
    have g0 := d3 0
    have g1 := d3 1
    have g2 := d3 2
    obtain ⟨v0, v1, v2, _⟩ := box_cells (box_put zB (.slice so n sc) (.slice lo n lc) (.int .i64 f.due))
    have hgr := box_grown W0 (w.heap.size + 1) (.slice so n sc) (.slice lo n lc) (.int .i64 f.due)
    go_wp2_with fail
    refine bodyPost_ret (v := .tuple #[.agg #[.slice so n sc, .slice lo n lc, .int .i64 f.due], .int .i64 0, .int .i64 28]) (by simp [results, Try.results20, asAddr, go_sem, v0, v1, v2]) rfl ⟨lo, lc, rfl, hLw.grown hgr (.inr HN.out), hb0.grown hgr hb0.size (fun k hk => by cases hk; exact Nat.le_succ _)⟩
  · have iI : (k : Int) < n := by omega
    have hkl : k < f.stakes.length := by rw [HS.out]; exact hkn
    have hk2 : k < f.laid.length := by rw [HLL.out]; exact hkn
    have HX := hide (getD_some (d := false) hk2)
    have HY := hide (getD_some (d := 0) hkl)
    clear hkl hk2
    rcases hc with ⟨t2, e⟩ | ⟨t2, t3, e⟩ | ⟨t2, t3, e⟩
    · rw [e]
      clear e
      go_enter Try.func20, Try.ntmps20
      go_upto_region 1 with fail
      generalize (w.alloc (.cells #[.slice so n sc, .slice lo n lc, .int .i64 f.due] 40 (0, 0))).alloc (.cells #[.slice none 0 0, .slice none 0 0, .int .i64 0] 40 (0, 0)) = W0 at *
      obtain ⟨c0, c1, c2, _⟩ := box_cells zA
      obtain ⟨d0, d1, d2, d3⟩ := box_cells zB
      have g0 := d3 0
      have g1 := d3 1
      have g2 := d3 2
      obtain ⟨b, ob, rfl, c3⟩ := hLw.rd.bool HX.out
      obtain ⟨b', eb, _, _⟩ := hLw.addr _ rfl
      cases eb
      rw [t2, Nat.zero_add] at c3
      clear t2
      obtain ⟨v0, v1, v2, _⟩ := box_cells (box_put zB (.slice so n sc) (.slice (some ⟨b, 0, none⟩) n lc) (.int .i64 f.due))
      have hgr := box_grown W0 (w.heap.size + 1) (.slice so n sc) (.slice (some ⟨b, 0, none⟩) n lc) (.int .i64 f.due)
      go_wp2_with fail
      refine bodyPost_ret (v := .tuple #[.agg #[.slice so n sc, .slice (some ⟨b, 0, none⟩) n lc, .int .i64 f.due], .int .i64 0, .int .i64 9]) (by simp [results, Try.results20, asAddr, go_sem, v0, v1, v2]) rfl ⟨(some ⟨b, 0, none⟩), lc, rfl, hLw.grown hgr (.inr HN.out), hb0.grown hgr hb0.size (fun k hk => by cases hk; exact Nat.le_succ _)⟩
    · rw [e]
      clear e
      go_enter Try.func20, Try.ntmps20
      go_upto_region 1 with fail
      generalize (w.alloc (.cells #[.slice so n sc, .slice lo n lc, .int .i64 f.due] 40 (0, 0))).alloc (.cells #[.slice none 0 0, .slice none 0 0, .int .i64 0] 40 (0, 0)) = W0 at *
      obtain ⟨c0, c1, c2, _⟩ := box_cells zA
      obtain ⟨d0, d1, d2, d3⟩ := box_cells zB
      have g0 := d3 0
      have g1 := d3 1
      have g2 := d3 2
      have hfu := fullR_any ⟨hSw, hLw.rd⟩ hm
      rw [t3] at hfu
      have HFU := hide hfu
      clear hfu
      obtain ⟨b, ob, rfl, c3⟩ := hLw.rd.bool HX.out
      obtain ⟨b', eb, _, _⟩ := hLw.addr _ rfl
      cases eb
      rw [t2, Nat.zero_add] at c3
      clear t2
      go_wp2_with fail
      refine HFU.out.mono ?_
      rintro e w1 ⟨rfl, hb1⟩
      have hLw := hLw.below hb1
      have hSw := hSw.below hb1
      have zA := z_keep (grown_of_below hb1 none) zA (fun e => by cases e)
      have zB := z_keep (grown_of_below hb1 none) zB (fun e => by cases e)
      have hsz1 := hb1.size
      have hb0 := below_trans hb0 hb1
      clear c0 c1 c2 c3 d0 d1 d2 d3 g0 g1 g2 hb1
      obtain ⟨c0, c1, c2, _⟩ := box_cells zA
      obtain ⟨d0, d1, d2, d3⟩ := box_cells zB
      have g0 := d3 0
      have g1 := d3 1
      have g2 := d3 2
      obtain ⟨v0, v1, v2, _⟩ := box_cells (box_put zB (.slice so n sc) (.slice (some ⟨b, 0, none⟩) n lc) (.int .i64 f.due))
      have hgr := box_grown w1 (w.heap.size + 1) (.slice so n sc) (.slice (some ⟨b, 0, none⟩) n lc) (.int .i64 f.due)
      go_wp2_with fail
      refine bodyPost_ret (v := .tuple #[.agg #[.slice so n sc, .slice (some ⟨b, 0, none⟩) n lc, .int .i64 f.due], .int .i64 0, .int .i64 10]) (by simp [results, Try.results20, asAddr, go_sem, v0, v1, v2]) rfl ⟨(some ⟨b, 0, none⟩), lc, rfl, hLw.grown hgr (.inr HN.out), hb0.grown hgr hb0.size (fun k hk => by cases hk; exact Nat.le_succ _)⟩
    · rw [e]
      clear e
      go_enter Try.func20, Try.ntmps20
      go_upto_region 1 with fail
      generalize (w.alloc (.cells #[.slice so n sc, .slice lo n lc, .int .i64 f.due] 40 (0, 0))).alloc (.cells #[.slice none 0 0, .slice none 0 0, .int .i64 0] 40 (0, 0)) = W0 at *
      obtain ⟨c0, c1, c2, _⟩ := box_cells zA
      obtain ⟨d0, d1, d2, d3⟩ := box_cells zB
      have g0 := d3 0
      have g1 := d3 1
      have g2 := d3 2
      have hfu := fullR_any ⟨hSw, hLw.rd⟩ hm
      rw [t3] at hfu
      have HFU := hide hfu
      clear hfu
      have T2 := hide t2
      obtain ⟨b, ob, rfl, c3⟩ := hLw.rd.bool HX.out
      obtain ⟨b', eb, _, _⟩ := hLw.addr _ rfl
      cases eb
      rw [t2, Nat.zero_add] at c3
      clear t2
      go_wp2_with fail
      refine HFU.out.mono ?_
      rintro e w1 ⟨rfl, hb1⟩
      clear c3
      have hLw := hLw.below hb1
      have hSw := hSw.below hb1
      have zA := z_keep (grown_of_below hb1 none) zA (fun e => by cases e)
      have zB := z_keep (grown_of_below hb1 none) zB (fun e => by cases e)
      have hsz1 := hb1.size
      have HS3 := hide (show w.heap.size + 2 ≤ w1.heap.size from by have := HS2.out; omega)
      have hb0 := below_trans hb0 hb1
      clear c0 c1 c2 d0 d1 d2 d3 g0 g1 g2 hb1
      obtain ⟨c0, c1, c2, _⟩ := box_cells zA
      obtain ⟨d0, d1, d2, d3⟩ := box_cells zB
      have g0 := d3 0
      have g1 := d3 1
      have g2 := d3 2
      obtain ⟨b2, o2, rfl, c4⟩ := hSw.int HY.out
      generalize f.stakes.getD k 0 = z at *
      go_upto_region 7 with fail
      have bE := below_alloc w1 (.cells #[] 4)
      have hle0 : w.heap.size + 2 ≤ w1.heap.size := by have := HS3.out; omega
      obtain ⟨e0, e1, e2, e3⟩ := box_cells (z_keep (grown_of_below bE none) zA (fun e => by cases e))
      have e4 := e3 1
      go_wp2_with (at_builtin; refine wpList_app boolE_ok sTB rfl (.tmp 27) (.tmp 29) rfl rfl (OwnS.emptyRow w1 (Nat.le_refl _)) rfl (hLw.rd.below bE) (by omega) (by unfold maxLen; omega) (by simp) ?_)
      intro lo' lc' w2 ho hg hnil
      have hb2 := bE.grown hg (by simp) (fun k hk => by simp [Value.ownBlock] at hk; omega)
      have zA2 := z_keep (grown_of_below hb2 none) zA (fun e => by cases e)
      have zB2 := z_keep (grown_of_below hb2 none) zB (fun e => by cases e)
      obtain ⟨gl, rfl⟩ : ∃ gl, lo' = some ⟨gl, 0, none⟩ := by
        cases lo' with
        | none => have := hnil rfl; omega
        | some ad => obtain ⟨g2, e, _, _⟩ := ho.addr ad rfl; exact ⟨g2, congrArg some e⟩
      obtain ⟨gl', eg, hgl, _⟩ := ho.addr _ rfl
      cases eg
      have hg3 := grown_setCell w2 ⟨w.heap.size, 1, none⟩ (.slice (some ⟨gl, 0, none⟩) n lc')
      have zA3 : (w2.setCell ⟨w.heap.size, 1, none⟩ (.slice (some ⟨gl, 0, none⟩) n lc')).heap[w.heap.size]? = some (.cells #[.slice (some ⟨b2, o2, none⟩) n sc, .slice (some ⟨gl, 0, none⟩) n lc', .int .i64 f.due] 40 (0, 0)) := by rw [heap_set zA2]; rfl
      have zB3 := z_keep hg3 zB2 (fun e => by have := Option.some.inj e; simp at this)
      have ho3 := ho.grown hg3 (.inr (fun e => by simp [Value.ownBlock] at e; omega))
      have hb3 := hb2.size
      obtain ⟨e0, e1, e2, e3⟩ := box_cells zA2
      have e4 := e3 1
      clear e3
      go_upto_region 8 with fail
      generalize w2.setCell ⟨w.heap.size, 1, none⟩ (.slice (some ⟨gl, 0, none⟩) n lc') = W3 at *
      obtain ⟨x0, x1, x2, _⟩ := box_cells zA3
      have hx3 := ho3.cell boolE_ok HX.out (j := 0) rfl
      have hx3 : W3.cell? ⟨gl, k, none⟩ = some (.bool true) := by rw [T2.out] at hx3; simpa [boolE] using hx3
      have hf3 := ho3.free k
      have ho4 := ho3.put1 k false (u := .bool false) (fun _ => rfl) rfl
      have hg4 := grown_setCell W3 ⟨gl, k, none⟩ (.bool false)
      have zA4 := z_keep hg4 zA3 (fun e => by have := Option.some.inj e; simp at this; omega)
      have zB4 := z_keep hg4 zB3 (fun e => by have := Option.some.inj e; simp at this; omega)
      go_upto_region 9 with fail
      generalize W3.setCell ⟨gl, k, none⟩ (.bool false) = W4 at *
      clear e0 e1 e2 e4 x0 x1 x2 hx3 hf3 c0 c1 c2 d0 d1 d2 d3 g0 g1 g2
      try clear c3
      obtain ⟨x0, x1, x2, _⟩ := box_cells zA4
      obtain ⟨y0, y1, y2, y3⟩ := box_cells zB4
      have g0 := y3 0
      have g1 := y3 1
      have g2 := y3 2
      have hput := box_put zB4 (.slice (some ⟨b2, o2, none⟩) n sc) (.slice (some ⟨gl, 0, none⟩) n lc') (.int .i64 f.due)
      obtain ⟨v0, v1, v2, _⟩ := box_cells hput
      have hgr := box_grown W4 (w.heap.size + 1) (.slice (some ⟨b2, o2, none⟩) n sc) (.slice (some ⟨gl, 0, none⟩) n lc') (.int .i64 f.due)
      have hbw2 := below_trans hb0 hb2
      have hbw3 := hbw2.grown hg3 hbw2.size (fun k hk => by cases hk; exact Nat.le_refl _)
      have hbw4 := hbw3.grown hg4 hbw3.size (fun k hk => by cases hk; show w.heap.size ≤ gl; omega)
      have hcx : ∀ W, W4.grownBy W (some (w.heap.size + 1)) → W.cell? ⟨w.heap.size, 0, none⟩ = some (.slice (some ⟨b2, o2, none⟩) n sc) ∧ W.cell? ⟨w.heap.size, 1, none⟩ = some (.slice (some ⟨gl, 0, none⟩) n lc') ∧ W.cell? ⟨w.heap.size, 2, none⟩ = some (.int .i64 f.due) ∧ W.cell? ⟨b2, o2 + k, none⟩ = some (.int .i64 z) := fun W hW => by
        obtain ⟨k0, k1, k2, _⟩ := box_cells (z_keep hW zA4 (fun e => by have := Option.some.inj e; omega))
        obtain ⟨b9, o9, e9, k4⟩ := (hS.below (hbw4.grown hW hbw4.size (fun k hk => by cases hk; exact Nat.le_succ _))).int HY.out
        cases e9
        exact ⟨k0, k1, k2, k4⟩
      have HC := hide hcx
      have hd : W4.grownBy W4.drew (some (w.heap.size + 1)) := grown_of_below (Below.refl _ _).drew _
      have hd2 := grown_trans hd (box_grown W4.drew (w.heap.size + 1) (.slice (some ⟨b2, o2, none⟩) n sc) (.slice (some ⟨gl, 0, none⟩) n lc') (.int .i64 f.due))
      clear hcx x0 x1 x2 v0 v1 v2 c4
      go_region_held3 (fun w' : World => w'.cell? ⟨w.heap.size, 0, none⟩ = some (.slice (some ⟨b2, o2, none⟩) n sc) ∧ w'.cell? ⟨w.heap.size, 1, none⟩ = some (.slice (some ⟨gl, 0, none⟩) n lc') ∧ w'.cell? ⟨w.heap.size, 2, none⟩ = some (.int .i64 f.due) ∧ w'.cell? ⟨b2, o2 + k, none⟩ = some (.int .i64 z)) (first | exact HC.out _ hd | exact HC.out _ hd2) (fail)
      all_goals
        go_wp2_with fail
        obtain ⟨v0, v1, v2, _⟩ := box_cells (z_keep (grown_of_below (Below.refl _ _).drew none) hput (fun e => by cases e))
        have hbw5 := hbw4.grown hgr hbw4.size (fun k hk => by cases hk; exact Nat.le_succ _)
        refine bodyPost_ret (v := .tuple #[.agg #[.slice (some ⟨b2, o2, none⟩) n sc, .slice (some ⟨gl, 0, none⟩) n lc', .int .i64 f.due], .int .i64 z, .int .i64 0]) (by simp [results, Try.results20, asAddr, go_sem, v0, v1, v2]) rfl ⟨some ⟨gl, 0, none⟩, lc', rfl, ((ho4.grown hgr (.inr (fun e => by simp [Value.ownBlock] at e; omega))).below (Below.refl _ _).drew).mono (by have := HB.out; omega), hbw5.drew⟩
end Go.Proofs.Ytoeoneiopcagfaa
