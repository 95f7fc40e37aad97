/- The document's pots: New, Pay, each by its walk. -/
import Derived.Test.YtmdmgmddblokoaaPotC
namespace Go.Proofs.Ytmdmgmddblokoaa
open Go.RowKit

set_option maxRecDepth 100000 in
set_option maxHeartbeats 2000000 in
theorem newR_no {w : World} {amount seats : Int} (h : newErr amount seats ≠ 0) :
    Calls Try.prog 15 #[.int .i64 amount, .int .i64 seats] w fun e w' => e = .returned (.tuple #[.agg #[.int .i64 0, .slice none 0 0], .int .i64 (newErr amount seats)]) ∧ Below w.heap.size w w' := by
  have hc : (okA amount = false ∧ newErr amount seats = 2) ∨ (okA amount = true ∧ seats < 1 ∧ newErr amount seats = 1) ∨ (okA amount = true ∧ 1 ≤ seats ∧ 8 < seats ∧ newErr amount seats = 1) := by
    unfold newErr at h ⊢
    cases hA : okA amount
    · simp
    · rw [hA] at h
      by_cases h1 : seats < 1
      · simp [h1]
      · by_cases h2 : 8 < seats
        · simp [h2]; omega
        · exact absurd (by simp [h1, h2]) h
  have HN := hide h
  clear h
  rcases hc with ⟨t1, e⟩ | ⟨t1, t2, e⟩ | ⟨t1, t2, t3, e⟩
  all_goals
    have HE := hide e
    clear e
    go_enter Try.func15, Try.ntmps15
    go_wp2_with fail
    refine (rightR_any amount _).mono ?_
    rintro e w1 ⟨rfl, rfl⟩
    go_wp2_with fail
    rw [HE.out]
    exact bodyPost_ret (v := .tuple #[.agg #[.int .i64 0, .slice none 0 0], .int .i64 _]) (by simp [results, Try.results15, asAddr, go_sem]) rfl ⟨rfl, below_alloc _ _⟩

set_option maxRecDepth 100000 in
set_option maxHeartbeats 2000000 in
theorem newR_ok {w : World} {amount : Int} {n : Nat} (h : newErr amount n = 0) :
    Calls Try.prog 15 #[.int .i64 amount, .int .i64 n] w fun e w' => ∃ ao c, e = .returned (.tuple #[.agg #[.int .i64 amount, .slice ao n c], .int .i64 0]) ∧ OwnS intE w' w.heap.size ao n c (List.replicate n 0) ∧ Below w.heap.size w w' := by
  have hc : okA amount = true ∧ 1 ≤ n ∧ n ≤ 8 := by
    unfold newErr at h
    cases hA : okA amount
    · rw [hA] at h; simp at h
    · rw [hA] at h
      by_cases h1 : (n : Int) < 1 ∨ 8 < (n : Int)
      · simp [h1] at h
      · exact ⟨rfl, by omega, by omega⟩
  obtain ⟨t1, h1, h8⟩ := hc
  have t2 : (1 : Int) ≤ n := by omega
  have t3 : (n : Int) ≤ 8 := by omega
  clear h
  have hb0 := below_alloc w (.cells #[.int .i64 0, .slice none 0 0] 36 (0, 0))
  have hz : (w.alloc (.cells #[.int .i64 0, .slice none 0 0] 36 (0, 0))).heap[w.heap.size]? = some (.cells #[.int .i64 0, .slice none 0 0] 36 (0, 0)) := heap_alloc_new w _
  have hs1 : (w.alloc (.cells #[.int .i64 0, .slice none 0 0] 36 (0, 0))).heap.size = w.heap.size + 1 := by simp
  go_enter Try.func15, Try.ntmps15
  go_wp2_with fail
  refine (rightR_any amount _).mono ?_
  rintro e w1 ⟨rfl, rfl⟩
  generalize w.alloc (.cells #[.int .i64 0, .slice none 0 0] 36 (0, 0)) = W0 at *
  have HS := hide hs1
  clear hs1
  go_wp2_with (refine wpList_make1 sTI rfl _ _ rfl rfl rfl (0 : Int) rfl rfl rfl (by omega) (by unfold maxLen; omega) ?_)
  intro W1 ho hb1
  have hlt : w.heap.size < W0.heap.size := by rw [HS.out]; omega
  have hz1 : W1.heap[w.heap.size]? = some (.cells #[.int .i64 0, .slice none 0 0] 36 (0, 0)) := by rw [hb1.block _ hlt]; exact hz
  have c0 : W1.cell? ⟨w.heap.size, 0, none⟩ = some (.int .i64 0) := by unfold World.cell?; rw [hz1]; rfl
  have c1 : W1.cell? ⟨w.heap.size, 1, none⟩ = some (.slice none 0 0) := by unfold World.cell?; rw [hz1]; rfl
  have f0 : ∀ j, W1.frozen? ⟨w.heap.size, j, none⟩ = false := fun j => frozen_of_row _ _ _ _ _ hz1
  go_wp2_with fail
  refine bodyPost_ret (v := .tuple #[.agg #[.int .i64 amount, .slice (some ⟨W0.heap.size, 0, none⟩) n n], .int .i64 0]) (by simp [results, Try.results15, asAddr, go_sem, c0, c1]) rfl ⟨_, _, rfl, ?_, ?_⟩
  · refine (ho.grown (grown_trans (grown_setCell W1 ⟨w.heap.size, 0, none⟩ _) (grown_setCell _ ⟨w.heap.size, 1, none⟩ _)) (.inr ?_)).mono (by omega)
    simp [Value.ownBlock]
    omega
  · exact (below_trans hb0 hb1).grown (grown_trans (grown_setCell W1 ⟨w.heap.size, 0, none⟩ _) (grown_setCell _ ⟨w.heap.size, 1, none⟩ _)) (Nat.le_trans hb0.size hb1.size) (fun k hk => by cases hk; exact Nat.le_refl _)

theorem heap_two_old (w : World) (A B : Obj) : ((w.alloc A).alloc B).heap[w.heap.size]? = some A := by
  rw [(below_alloc (w.alloc A) B).block w.heap.size (by simp)]
  exact heap_alloc_new w A
theorem heap_two_new (w : World) (A B : Obj) : ((w.alloc A).alloc B).heap[w.heap.size + 1]? = some B := by
  have h := heap_alloc_new (w.alloc A) B
  simpa using h

theorem pot_put {w : World} {b : Nat} (h : w.heap[b]? = some (.cells #[.int .i64 0, .slice none 0 0] 36 (0, 0))) (x : Int) (v : Value) :
    ((w.setCell ⟨b, 0, none⟩ (.int .i64 x)).setCell ⟨b, 1, none⟩ v).heap[b]? = some (.cells #[.int .i64 x, v] 36 (0, 0)) := by
  have h1 : (w.setCell ⟨b, 0, none⟩ (.int .i64 x)).heap[b]? = some (.cells #[.int .i64 x, .slice none 0 0] 36 (0, 0)) := by rw [heap_set h]; rfl
  rw [heap_set h1]; rfl

theorem OwnS.later' {α : Type} {E : El α} {w : World} {base g n c : Nat} {ao : Option Addr} {l : List α} (h : OwnS E w base ao n c l) (hg : w.heap.size ≤ g) : (Value.slice ao n c).ownBlock ≠ some g := by
  cases ao with
  | none => simp [Value.ownBlock]
  | some ad =>
    obtain ⟨g2, rfl, _, h2⟩ := h.addr ad rfl
    simp [Value.ownBlock]
    omega

theorem OwnS.notRow {α : Type} {E : El α} {w : World} {base b n c : Nat} {ao : Option Addr} {l : List α} {cs : Array Value} {t : TypeId} {fr : Nat × Nat} (h : OwnS E w base ao n c l) (hz : w.heap[b]? = some (.cells cs t fr)) (hne : t ≠ E.e) : (Value.slice ao n c).ownBlock ≠ some b := by
  rcases h.own.2 with ⟨hv, _⟩ | ⟨g, cap', cur, hv, _, hg, _⟩
  · cases hv
    simp [Value.ownBlock]
  · cases hv
    intro e
    simp [Value.ownBlock] at e
    subst e
    rw [hg] at hz
    cases hz
    exact hne rfl

theorem z_keep {W w : World} {b : Nat} {o : Obj} {row : Option Nat} (hg : W.grownBy w row) (hz : W.heap[b]? = some o) (hne : row ≠ some b) : w.heap[b]? = some o := by
  rw [hg.block b (by rcases Nat.lt_or_ge b W.heap.size with h | h; exact h; rw [Array.getElem?_eq_none h] at hz; cases hz) (fun e => hne e.symm)]; exact hz

theorem pot_cells {w : World} {b : Nat} {x : Int} {v : Value} (h : w.heap[b]? = some (.cells #[.int .i64 x, v] 36 (0, 0))) :
    w.cell? ⟨b, 0, none⟩ = some (.int .i64 x) ∧ w.cell? ⟨b, 1, none⟩ = some v ∧ w.frozen? ⟨b, 0, none⟩ = false ∧ w.frozen? ⟨b, 1, none⟩ = false :=
  ⟨by unfold World.cell?; rw [h]; rfl, by unfold World.cell?; rw [h]; rfl, frozen_of_row _ _ _ _ _ h, frozen_of_row _ _ _ _ _ h⟩

set_option maxRecDepth 100000 in
set_option maxHeartbeats 4000000 in
theorem payR_any {w : World} {p : PotX} {amount : Int} {n c : Nat} {ao : Option Addr} {seat ask : Int} (hR : RdS intE w ao n c p.has) (hk : p.Ok amount n) :
    Calls Try.prog 16 #[.agg #[.int .i64 p.left, .slice ao n c], .int .i64 seat, .int .i64 ask] w fun e w' => ∃ ao' c', e = .returned (.tuple #[.agg #[.int .i64 (payF p seat ask).left, .slice ao' n c'], .int .i64 (paidF p ask)]) ∧
      OwnS intE w' w.heap.size ao' n c' (payF p seat ask).has ∧ Below w.heap.size w w' := by
  have hlen := hk.len
  have hmost := hk.most
  have hi : seatF p.has.length seat < p.has.length := seatF_lt (by rw [hk.len]; exact hk.one) seat
  obtain ⟨b1, b2⟩ := hk.paid ask
  obtain ⟨b3, b4, b5, b6⟩ := hk.get (seatF p.has.length seat)
  have hp0 := hk.pos
  rw [hlen] at hi b3 b4 b6
  have hend : payF p seat ask = { left := p.left - paidF p ask, has := p.has.set (seatF n seat) (p.has.getD (seatF n seat) 0 + paidF p ask) } := by unfold payF; rw [hlen]
  have hc1 : (seat < 0 ∧ ((seatF n seat : Nat) : Int) = 0) ∨ (0 ≤ seat ∧ (n : Int) ≤ seat ∧ ((seatF n seat : Nat) : Int) = 0) ∨ (0 ≤ seat ∧ seat < (n : Int) ∧ ((seatF n seat : Nat) : Int) = seat) := by
    unfold seatF
    split <;> omega
  obtain ⟨a1, ha1⟩ : ∃ a1, a1 = if p.left < ask then p.left else ask := ⟨_, rfl⟩
  have hc2 : (p.left < ask ∧ a1 = p.left) ∨ (ask ≤ p.left ∧ a1 = ask) := by
    rw [ha1]; split
    · left; exact ⟨by assumption, rfl⟩
    · right; exact ⟨by omega, rfl⟩
  have hc3 : (a1 < 0 ∧ paidF p ask = 0) ∨ (0 ≤ a1 ∧ paidF p ask = a1) := by
    rw [ha1]; unfold paidF
    split
    · right; exact ⟨hp0, rfl⟩
    · split
      · left; exact ⟨by assumption, rfl⟩
      · right; exact ⟨by omega, rfl⟩
  rw [hend]
  generalize hs : seatF n seat = s at *
  generalize hm : paidF p ask = m at *
  generalize hv : p.has.getD s 0 = v at *
  have hg : p.has[s]? = some v := by rw [← hv, List.getD_eq_getElem?_getD, List.getElem?_eq_getElem (by omega)]; rfl
  have hb0 : Below w.heap.size w ((w.alloc (.cells #[.int .i64 p.left, .slice ao n c] 36 (0, 0))).alloc (.cells #[.int .i64 0, .slice none 0 0] 36 (0, 0))) := below_trans (below_alloc w _) (below_alloc _ _)
  have zA := heap_two_old w (.cells #[.int .i64 p.left, .slice ao n c] 36 (0, 0)) (.cells #[.int .i64 0, .slice none 0 0] 36 (0, 0))
  have zB := heap_two_new w (.cells #[.int .i64 p.left, .slice ao n c] 36 (0, 0)) (.cells #[.int .i64 0, .slice none 0 0] 36 (0, 0))
  have hs2 : ((w.alloc (.cells #[.int .i64 p.left, .slice ao n c] 36 (0, 0))).alloc (.cells #[.int .i64 0, .slice none 0 0] 36 (0, 0))).heap.size = w.heap.size + 2 := by simp
  have HC1 := hide hc1
  have HC2 := hide hc2
  have HC3 := hide hc3
  have HG := hide hg
  have HS2 := hide hs2
  clear hc1 hc2 hc3 hg hs hm hv hend ha1 hlen hs2
  go_enter Try.func16, Try.ntmps16
  go_upto_region 1 with fail
  generalize (w.alloc (.cells #[.int .i64 p.left, .slice ao n c] 36 (0, 0))).alloc (.cells #[.int .i64 0, .slice none 0 0] 36 (0, 0)) = W0 at *
  have c0 : W0.cell? ⟨w.heap.size, 0, none⟩ = some (.int .i64 p.left) := by unfold World.cell?; rw [zA]; rfl
  have c1 : W0.cell? ⟨w.heap.size, 1, none⟩ = some (.slice ao n c) := by unfold World.cell?; rw [zA]; rfl
  obtain ⟨bb, hbb⟩ : ∃ bb : Bool, (seat < 0 ∧ bb = true ∧ (s : Int) = 0) ∨ (0 ≤ seat ∧ (n : Int) ≤ seat ∧ bb = true ∧ (s : Int) = 0) ∨ (0 ≤ seat ∧ seat < (n : Int) ∧ bb = false ∧ (s : Int) = seat) := by
    rcases HC1.out with ⟨t1, e⟩ | ⟨t1, t2, e⟩ | ⟨t1, t2, e⟩
    · exact ⟨true, .inl ⟨t1, rfl, e⟩⟩
    · exact ⟨true, .inr (.inl ⟨t1, t2, rfl, e⟩)⟩
    · exact ⟨false, .inr (.inr ⟨t1, t2, rfl, e⟩)⟩
  have HBB := hide hbb
  clear hbb
  go_cut [17] from 9 to 17 (fun v17 wr => v17 = .bool bb ∧ wr = W0)
  case first =>
    rcases HBB.out with ⟨t1, e, _⟩ | ⟨t1, t2, e, _⟩ | ⟨t1, t2, e, _⟩
    all_goals
      have HE := hide e
      clear e
      go_wp2_with fail
      go_meet
      case rel => exact ⟨by first | (rw [HE.out]; done) | (rw [HE.out]; simp; omega), rfl⟩
  case rest =>
    obtain ⟨rfl, rfl⟩ := hcut
    go_upto_if 17 with fail
    go_cut [1] from 9 to 17 (fun v1 wr => v1 = .int .i64 (s : Nat) ∧ wr = wc)
    case first =>
      rcases HBB.out with ⟨_, e, e2⟩ | ⟨_, _, e, e2⟩ | ⟨_, _, e, e2⟩
      all_goals
        have HE := hide e2
        clear e2
        subst e
        go_wp2_with fail
        go_meet
        case rel => exact ⟨by rw [HE.out], rfl⟩
    case rest =>
      obtain ⟨rfl, rfl⟩ := hcut
      go_upto_if 21 with fail
      go_cut [2] from 18 to 21 (fun v2 wr => v2 = .int .i64 a1 ∧ wr = wc)
      case first =>
        rcases HC2.out with ⟨t1, e⟩ | ⟨t1, e⟩
        all_goals
          have HE := hide e
          clear e
          go_wp2_with fail
          go_meet
          case rel => exact ⟨by rw [HE.out], rfl⟩
      case rest =>
        obtain ⟨rfl, rfl⟩ := hcut
        go_upto_if 25 with fail
        go_cut [2] from 22 to 25 (fun v2 wr => v2 = .int .i64 m ∧ wr = wc)
        case first =>
          rcases HC3.out with ⟨t1, e⟩ | ⟨t1, e⟩
          all_goals
            have HE := hide e
            clear e
            go_wp2_with fail
            go_meet
            case rel => exact ⟨by rw [HE.out], rfl⟩
        case rest =>
          obtain ⟨rfl, rfl⟩ := hcut
          have hw0 : IntKind.i64.wrap (p.left - m) = p.left - m := by go_arith
          have hRw := hR.below hb0
          have hsz : w.heap.size < wc.heap.size := by rw [HS2.out]; omega
          have hcells : ∀ W, Below wc.heap.size wc W → W.cell? ⟨w.heap.size, 0, none⟩ = some (.int .i64 p.left) ∧ W.cell? ⟨w.heap.size, 1, none⟩ = some (.slice ao n c) := fun W hb => ⟨by rw [hb.cell (p := ⟨w.heap.size, 0, none⟩) hsz]; exact c0, by rw [hb.cell (p := ⟨w.heap.size, 1, none⟩) hsz]; exact c1⟩
          have bE := below_alloc wc (.cells #[] 3)
          have bZ := below_alloc wc (.cells #[.int .i64 0, .slice none 0 0] 36)
          have bEZ := below_trans bE (below_alloc _ (.cells #[.int .i64 0, .slice none 0 0] 36))
          have bZE := below_trans bZ (below_alloc _ (.cells #[] 3))
          obtain ⟨e1, e2⟩ := hcells _ bE
          obtain ⟨e3, e4⟩ := hcells _ bZ
          obtain ⟨e5, e6⟩ := hcells _ bEZ
          obtain ⟨e7, e8⟩ := hcells _ bZE
          have zZ := heap_alloc_new wc (.cells #[.int .i64 0, .slice none 0 0] 36 (0, 0))
          have zEZ := heap_two_new wc (.cells #[] 3) (.cells #[.int .i64 0, .slice none 0 0] 36 (0, 0))
          have zZE := heap_two_old wc (.cells #[.int .i64 0, .slice none 0 0] 36 (0, 0)) (.cells #[] 3)
          have hE3 : OwnS intE ((wc.alloc (.cells #[.int .i64 0, .slice none 0 0] 36)).alloc (.cells #[] 3)).drew wc.heap.size (some ⟨wc.heap.size + 1, 0, none⟩) 0 0 [] := by
            have h1 := (OwnS.emptyRow (E := intE) (base := wc.heap.size) (wc.alloc (.cells #[.int .i64 0, .slice none 0 0] 36)) (by simp)).below (w' := ((wc.alloc (.cells #[.int .i64 0, .slice none 0 0] 36)).alloc (.cells #[] 3)).drew) (Below.refl _ _).drew
            have h2 : (wc.alloc (.cells #[.int .i64 0, .slice none 0 0] 36)).heap.size = wc.heap.size + 1 := by simp
            rw [h2] at h1
            exact h1
          go_upto_region 7 with fail
          go_cut [8] from 26 to 34 (fun v8 wr => ∃ (gO : Nat) (a8 : Option Addr) (c8 : Nat), v8 = .pointer (some ⟨gO, 0, none⟩) ∧ wr.heap[gO]? = some (.cells #[.int .i64 (p.left - m), .slice a8 n c8] 36 (0, 0)) ∧
              OwnS intE wr wc.heap.size a8 n c8 p.has ∧ (Value.slice a8 n c8).ownBlock ≠ some gO ∧ wc.heap.size ≤ gO ∧ Below wc.heap.size wc wr)
          case first =>
            go_region_law (first
              | (refine step_app intE_ok sTI rfl (.tmp 30) (.tmp 32) rfl rfl ((OwnS.emptyRow wc (Nat.le_refl _)).below (w' := (wc.alloc (.cells #[] 3)).drew) (Below.refl _ _).drew) rfl (hRw.below bE.drew) (by omega) (by unfold maxLen; omega) (by simp) ?_; intro ao' c' w2 ho hg _; have hb2 := bE.drew.grown hg (by simp) (fun k hk => by simp [Value.ownBlock] at hk; omega); obtain ⟨x1, x2⟩ := hcells _ hb2; obtain ⟨x3, x4⟩ := hcells _ (below_trans hb2 (below_alloc w2 (.cells #[.int .i64 0, .slice none 0 0] 36))); have zN := heap_alloc_new w2 (.cells #[.int .i64 0, .slice none 0 0] 36 (0, 0)); have hq : 1 = 1 := rfl)
              | (refine step_app intE_ok sTI rfl (.tmp 30) (.tmp 32) rfl rfl ((OwnS.emptyRow wc (Nat.le_refl _)).below (w' := ((wc.alloc (.cells #[] 3)).alloc (.cells #[.int .i64 0, .slice none 0 0] 36)).drew) (below_alloc _ _).drew) rfl (hRw.below bEZ.drew) (by omega) (by unfold maxLen; omega) (by simp; omega) ?_; intro ao' c' w2 ho hg _; have hz := z_keep hg zEZ (by simp [Value.ownBlock]); obtain ⟨q0, q1, q2, q3⟩ := pot_cells hz; have hb2 := bEZ.drew.grown hg (by simp; omega) (fun k hk => by simp [Value.ownBlock] at hk; omega); obtain ⟨x1, x2⟩ := hcells _ hb2; have hq : 2 = 2 := rfl)
              | (refine step_app intE_ok sTI rfl (.tmp 30) (.tmp 32) rfl rfl hE3 rfl (hRw.below bZE.drew) (by omega) (by unfold maxLen; omega) (by simp; omega) ?_; intro ao' c' w2 ho hg _; have hz := z_keep hg zZE (by simp [Value.ownBlock]); obtain ⟨q0, q1, q2, q3⟩ := pot_cells hz; have hb2 := bZE.drew.grown hg (by simp; omega) (fun k hk => by simp [Value.ownBlock] at hk; omega); obtain ⟨x1, x2⟩ := hcells _ hb2; have hq : 3 = 3 := rfl))
            all_goals
              clear hcells bE bZ bEZ bZE zZ zEZ zZE e1 e2 e3 e4 e5 e6 e7 e8 HC1 HC2 HC3 HG HBB
              rw [List.nil_append, Nat.zero_add] at ho
              go_wp2_with fail
              go_meet
              case rel =>
                first
                  | exact ⟨_, ao', c', rfl, heap_alloc_new w2 _, ho.below (below_alloc w2 _), ho.later' (Nat.le_refl _), hb2.size, below_trans hb2 (below_alloc w2 _)⟩
                  | exact ⟨_, ao', c', rfl, pot_put hz _ _, ho.grown (grown_trans (grown_setCell w2 _ _) (grown_setCell _ _ _)) (.inr (ho.notRow hz (by decide))), ho.notRow hz (by decide), by first | exact Nat.le_refl _ | exact Nat.le_succ _, hb2.grown (grown_trans (grown_setCell w2 _ _) (grown_setCell _ _ _)) hb2.size (fun k hk => by cases hk; first | exact Nat.le_refl _ | exact Nat.le_succ _)⟩
          case rest =>
            obtain ⟨gO, a8, c8, rfl, hz8, ho8, hne8, hle8, hb8⟩ := hcut
            have hx : p.has[s]? = some v := HG.out
            obtain ⟨b8, o8, rfl, hv8⟩ := ho8.rd.cell intE_ok hx (j := 0) rfl
            obtain ⟨g8, e8, hg8, hl8⟩ := ho8.addr _ rfl
            cases e8
            have hv9 : wc.cell? ⟨b8, s, none⟩ = some (.int .i64 v) := by simpa [intE] using hv8
            obtain ⟨y0, y1, y2, y3⟩ := pot_cells hz8
            have hd : Below wc.heap.size wc wc.drew := (Below.refl _ _).drew
            have hlt : (s : Int) < n := by omega
            have hw9 : IntKind.i64.wrap (v + m) = v + m := by go_arith
            have hbne : b8 ≠ gO := fun e => hne8 (by rw [e]; rfl)
            have zB8 := z_keep (grown_of_below hb8 none) zB (fun e => by cases e)
            clear hv8 hx
            go_upto_region 8 with fail
            go_still_tail 11, (by kernel_rfl)
            change wpList _ _ _ _ _ wc.drew
            have hz9 := z_keep (grown_of_below hd none) hz8 (fun e => by cases e)
            have zB9 := z_keep (grown_of_below hd none) zB8 (fun e => by cases e)
            have ho9 := ho8.below hd
            have hb9 := below_trans hb8 hd
            have hf9 := ho9.free s
            have hv10 : wc.drew.cell? ⟨b8, s, none⟩ = some (.int .i64 v) := hv9
            have hs2 := HS2.out
            generalize wc.drew = W1 at *
            have hg1 := grown_setCell W1 ⟨b8, s, none⟩ (.int .i64 (v + m))
            have hzX := z_keep hg1 hz9 (fun e => hbne (Option.some.inj e))
            have zBX := z_keep hg1 zB9 (fun e => by have := Option.some.inj e; simp at this; omega)
            have hoX := ho9.put1 s (v + m) (u := .int .i64 (v + m)) (fun _ => rfl) rfl
            obtain ⟨x0, x1, x2, x3⟩ := pot_cells hzX
            obtain ⟨r0, r1, r2, r3⟩ := pot_cells zBX
            go_wp2_with fail
            obtain ⟨v0, v1, _, _⟩ := pot_cells (pot_put zBX (p.left - m) (.slice (some ⟨b8, 0, none⟩) n c8))
            have hg2 := grown_trans (grown_setCell (W1.setCell ⟨b8, s, none⟩ (.int .i64 (v + m))) ⟨w.heap.size + 1, 0, none⟩ (.int .i64 (p.left - m))) (grown_setCell _ ⟨w.heap.size + 1, 1, none⟩ (.slice (some ⟨b8, 0, none⟩) n c8))
            have hbw := below_trans hb0 hb9
            refine bodyPost_ret (v := .tuple #[.agg #[.int .i64 (p.left - m), .slice (some ⟨b8, 0, none⟩) n c8], .int .i64 m]) (by simp [results, Try.results16, asAddr, go_sem, v0, v1]) rfl ⟨_, c8, rfl, ?_, ?_⟩
            · exact (hoX.grown hg2 (.inr (by simp [Value.ownBlock]; omega))).mono (by omega)
            · have hbX := hbw.grown hg1 hbw.size (fun k hk => by cases hk; show w.heap.size ≤ b8; omega)
              exact hbX.grown hg2 hbX.size (fun k hk => by cases hk; exact Nat.le_succ _)
end Go.Proofs.Ytmdmgmddblokoaa
