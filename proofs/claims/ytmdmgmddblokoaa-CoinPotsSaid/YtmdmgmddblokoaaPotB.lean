/- The pots of the layer coin: Pays, Rest, Clone, Same, each by its walk. -/
import Derived.Test.YtmdmgmddblokoaaPotA
import Derived.ChangeKeysEq
import Derived.Laws.StructEq
namespace Go.Proofs.Ytmdmgmddblokoaa
open Go.RowKit

set_option maxRecDepth 100000 in
set_option maxHeartbeats 1000000 in
theorem pays_any {w : World} {base g : Nat} {p : PotX} (h : PotP w base g p) :
    Calls Try.prog 19 #[.pointer (some ⟨g, 0, none⟩)] w fun e w' => ∃ ao c, e = .returned (.slice ao p.has.length c) ∧ OwnS intE w' w.heap.size ao p.has.length c p.has ∧ Below w.heap.size w w' := by
  have c1 := h.c_seats
  have hr := h.rd
  have hm := h.most
  generalize hn : p.has.length = n at *
  have i1 : (n : Int) ≤ 8 := by omega
  have c2 : (w.alloc (.cells #[] 3)).cell? ⟨g, 1, none⟩ = some (.int .i64 n) := by rw [(below_alloc w (.cells #[] 3)).cell (p := ⟨g, 1, none⟩) h.lt]; exact c1
  have HN := hide hn
  clear hn hm
  go_enter Try.func19, Try.ntmps19
  go_wp2_with fail
  go_region_law (refine step_app intE_ok sTI rfl (.tmp 5) (.tmp 13) rfl rfl ((OwnS.emptyRow w (Nat.le_refl _)).below (w' := (w.alloc (.cells #[] 3)).drew) (Below.refl _ _).drew) rfl (hr.below (below_alloc w (.cells #[] 3)).drew) (by omega) (by unfold maxLen; omega) (by simp) ?_; intro ao c' w2 ho hg _; have hb2 := (below_alloc w (.cells #[] 3)).drew.grown hg (by simp) (fun k hk => by simp [Value.ownBlock] at hk; omega))
  all_goals
    go_wp2_with fail
    go_ret
    exact ⟨ao, c', by first | rfl | (simp only [Nat.zero_add]; rfl), by simpa using ho, hb2⟩

set_option maxRecDepth 100000 in
set_option maxHeartbeats 1000000 in
theorem rest_any {w : World} {base g : Nat} {p : PotX} {amount : Int} {n : Nat} {seat : Int} (h : PotP w base g p) (hk : p.Ok amount n) :
    Calls Try.prog 22 #[.pointer (some ⟨g, 0, none⟩), .int .i64 seat] w fun e w' => ∃ ao c, e = .returned (.slice ao (payF p seat p.left).has.length c) ∧ PotP w' base g (payF p seat p.left) ∧ w.grownBy w' (some g) ∧
      OwnS intE w' w.heap.size ao (payF p seat p.left).has.length c (payF p seat p.left).has := by
  go_enter Try.func22, Try.ntmps22
  go_wp2_with fail
  refine (left_any h).mono ?_
  rintro e w1 ⟨rfl, rfl⟩
  go_wp2_with fail
  refine (pay_any (seat := seat) (ask := p.left) h hk).mono ?_
  rintro e w1 ⟨rfl, h1, hg1⟩
  go_wp2_with fail
  refine (pays_any h1).mono ?_
  rintro e w2 ⟨ao, c, rfl, ho, hb⟩
  go_wp2_with fail
  go_ret
  exact ⟨ao, c, rfl, h1.below hb, grown_trans hg1 (grown_of_below hb _), ho.mono hg1.size⟩

def potI (p : PotX) : List Int := [p.left, (p.has.length : Int)] ++ (p.has ++ List.replicate (8 - p.has.length) 0)
theorem potL_I (p : PotX) : potL p = i64L (potI p) := by simp [potL, potI, i64L]
theorem potI_len {p : PotX} (h : p.has.length ≤ 8) : (potI p).length = 10 := by simp [potI]; omega
theorem i64L_one (l : List Int) : (i64L l).toArray.all (·.oneCell') = true := all_oneCell_toArray fun v hv => by
  obtain ⟨x, _, rfl⟩ := List.mem_map.1 hv
  rfl

theorem potI_eq {p q : PotX} (h : p.has.length = q.has.length) : potI p = potI q ↔ p.left = q.left ∧ p.has = q.has := by
  unfold potI
  simp only [List.cons_append, List.nil_append, List.cons.injEq, h]
  constructor
  · rintro ⟨h1, _, h2⟩
    exact ⟨h1, (List.append_inj h2 h).1⟩
  · rintro ⟨h1, h2⟩
    exact ⟨h1, trivial, by rw [h2]⟩

set_option maxRecDepth 100000 in
set_option maxHeartbeats 1000000 in
theorem clone_any {w : World} {base g : Nat} {p : PotX} (h : PotP w base g p) :
    Calls Try.prog 20 #[.pointer (some ⟨g, 0, none⟩)] w fun e w' => ∃ g', e = .returned (.pointer (some ⟨g', 0, none⟩)) ∧ PotP w' w.heap.size g' p ∧ Below w.heap.size w w' := by
  have hl := potL_len h.most
  have hr : w.rangeAt g 0 (potL p) := by
    have := range_of_block h.hh [] (potL p) [] (by simp)
    simpa using this
  obtain ⟨Z, hZ⟩ : ∃ Z : Array Value, Z = #[Value.int .i64 0, .int .i64 0, .int .i64 0, .int .i64 0, .int .i64 0, .int .i64 0, .int .i64 0, .int .i64 0, .int .i64 0, .int .i64 0] := ⟨_, rfl⟩
  obtain ⟨W1, hW1⟩ : ∃ W1, w.alloc (.cells Z 66 (0, 0)) = W1 := ⟨_, rfl⟩
  have hb : W1.heap[w.heap.size]? = some (.cells Z 66 (0, 0)) := by rw [← hW1]; exact heap_alloc_new w _
  have ht : W1.there w.heap.size 0 (potL p).toArray.size := fun j hj => by
    refine ⟨?_, frozen_of_row _ _ _ _ _ hb⟩
    rw [cell_of_row _ _ _ _ _ _ hb]
    have : j < 10 := by simpa [hl] using hj
    rw [hZ]
    rw [Array.getElem?_eq_getElem (by simp; omega)]
    rfl
  have hbel : Below w.heap.size w W1 := by rw [← hW1]; exact below_alloc w _
  have hg := grown_setCells w.heap.size (potL p) 0 W1
  have hput : (W1.setCells w.heap.size 0 (potL p)).heap[w.heap.size]? = some (.cells (potL p).toArray 66 (0, 0)) := by
    have := heap_put (g := w.heap.size) (w := W1) (t := 66) (fr := (0, 0)) (potL p) Z.toList [] [] (by rw [hl, hZ]; rfl) (by rw [hb]; simp)
    simpa using this
  subst hZ
  go_enter Try.func20, Try.ntmps20
  go_wp2_with (first | refine wpList_load_mid rfl _ _ rfl g 0 rfl (potL p) _ hr Try.underlying66 rfl (by rw [hl]; rfl) ?_ | refine wpList_store_mid rfl _ _ _ rfl w.heap.size 0 (potL p).toArray rfl rfl ht (by rw [show (potL p).toArray.size = 10 from by simp [hl]]; rfl) (by rw [potL_I]; exact i64L_one _) ?_)
  go_ret
  exact ⟨w.heap.size, rfl, ⟨Nat.le_refl _, h.most, hput⟩, hbel.grown hg hbel.size (fun k hk => by cases hk; omega)⟩

theorem ten_ex {l : List Int} (h : l.length = 10) : ∃ a0 a1 a2 a3 a4 a5 a6 a7 a8 a9, l = [a0, a1, a2, a3, a4, a5, a6, a7, a8, a9] := by
  match l, h with
  | [a0, a1, a2, a3, a4, a5, a6, a7, a8, a9], _ => exact ⟨a0, a1, a2, a3, a4, a5, a6, a7, a8, a9, rfl⟩

set_option maxRecDepth 100000 in
set_option maxHeartbeats 2000000 in
theorem arr_eqIn (w : World) (d : Nat) (a0 a1 a2 a3 a4 a5 a6 a7 b0 b1 b2 b3 b4 b5 b6 b7 : Int) :
    (Op.equalIn (d + 2) 64 (.agg #[.int .i64 a0, .int .i64 a1, .int .i64 a2, .int .i64 a3, .int .i64 a4, .int .i64 a5, .int .i64 a6, .int .i64 a7]) (.agg #[.int .i64 b0, .int .i64 b1, .int .i64 b2, .int .i64 b3, .int .i64 b4, .int .i64 b5, .int .i64 b6, .int .i64 b7])).run Try.prog w =
      .ok (decide ([a0, a1, a2, a3, a4, a5, a6, a7] = [b0, b1, b2, b3, b4, b5, b6, b7])) w := by
  obtain ⟨i, hi⟩ : ∃ i, Try.prog.info? 3 = some i := ⟨_, rfl⟩
  have hc : Try.prog.cellsOf 3 = 1 := by kernel_rfl
  have hu := Try.underlying3
  rw [run_equalIn_array w (d + 1) _ _ Try.underlying64 hi, hc]
  simp [List.range, List.range.loop, Op.eqItems, go_sem, hu]
  repeat' split
  all_goals simp_all
end Go.Proofs.Ytmdmgmddblokoaa
