/- The pots of the layer coin: Same, by its walk; what is told of the example. -/
import Derived.Test.YtmdmgmddblokoaaPotB
import Derived.Test.YtmdmgmddblokoaaCoinD
import Derived.Test.YtmdmgmddblokoaaCoinE
import Derived.Deep.RegionHeld3
namespace Go.Proofs.Ytmdmgmddblokoaa
open Go.RowKit

set_option maxRecDepth 100000 in
set_option maxHeartbeats 2000000 in
theorem pot_eqIn (w : World) (a0 a1 a2 a3 a4 a5 a6 a7 a8 a9 b0 b1 b2 b3 b4 b5 b6 b7 b8 b9 : Int) :
    (Op.equalIn 10000 66 (.agg #[.int .i64 a0, .int .i64 a1, .int .i64 a2, .int .i64 a3, .int .i64 a4, .int .i64 a5, .int .i64 a6, .int .i64 a7, .int .i64 a8, .int .i64 a9]) (.agg #[.int .i64 b0, .int .i64 b1, .int .i64 b2, .int .i64 b3, .int .i64 b4, .int .i64 b5, .int .i64 b6, .int .i64 b7, .int .i64 b8, .int .i64 b9])).run Try.prog w =
      .ok (decide ([a0, a1, a2, a3, a4, a5, a6, a7, a8, a9] = [b0, b1, b2, b3, b4, b5, b6, b7, b8, b9])) w := by
  have hs : Try.prog.stoodInHeld 66 = false := by kernel_rfl
  have hu := Try.underlying3
  rw [show (10000 : Nat) = 9999 + 1 from rfl, run_equalIn_struct w 9999 _ _ _ (by kernel_rfl) hs]
  have harr := fun W => arr_eqIn W 9997 a2 a3 a4 a5 a6 a7 a8 a9 b2 b3 b4 b5 b6 b7 b8 b9
  simp only [show 9997 + 2 = 9999 from rfl] at harr
  simp [Program.fieldsOf, Try.underlying66, Op.eqFields, go_sem, hu, harr]
  repeat' split
  all_goals simp_all

theorem pot_eql (w : World) (a0 a1 a2 a3 a4 a5 a6 a7 a8 a9 b0 b1 b2 b3 b4 b5 b6 b7 b8 b9 : Int) :
    (binOp .eql 66 (.agg #[.int .i64 a0, .int .i64 a1, .int .i64 a2, .int .i64 a3, .int .i64 a4, .int .i64 a5, .int .i64 a6, .int .i64 a7, .int .i64 a8, .int .i64 a9]) (.agg #[.int .i64 b0, .int .i64 b1, .int .i64 b2, .int .i64 b3, .int .i64 b4, .int .i64 b5, .int .i64 b6, .int .i64 b7, .int .i64 b8, .int .i64 b9])).run Try.prog w =
      .ok (.bool (decide ([a0, a1, a2, a3, a4, a5, a6, a7, a8, a9] = [b0, b1, b2, b3, b4, b5, b6, b7, b8, b9]))) w := by
  unfold binOp Op.equal Op.maxDepth
  simp only [Sem.run_bind, pot_eqIn]
  rfl
attribute [go_sem high] pot_eql

set_option maxRecDepth 100000 in
set_option maxHeartbeats 2000000 in
theorem same_any {w : World} {base g base2 g2 : Nat} {p q : PotX} (h : PotP w base g p) (h2 : PotP w base2 g2 q) :
    Calls Try.prog 21 #[.pointer (some ⟨g, 0, none⟩), .pointer (some ⟨g2, 0, none⟩)] w fun e w' => e = .returned (.bool (decide (potI p = potI q))) ∧ Below w.heap.size w w' := by
  obtain ⟨x0, x1, x2, x3, x4, x5, x6, x7, x8, x9, hx⟩ := ten_ex (potI_len h.most)
  obtain ⟨y0, y1, y2, y3, y4, y5, y6, y7, y8, y9, hy⟩ := ten_ex (potI_len h2.most)
  have c := fun k v hk => h.cell k v hk
  have d := fun k v hk => h2.cell k v hk
  rw [potL_I, hx] at c
  rw [potL_I, hy] at d
  have c0 := c 0 _ rfl
  have c1 := c 1 _ rfl
  have c2 := c 2 _ rfl
  have c3 := c 3 _ rfl
  have c4 := c 4 _ rfl
  have c5 := c 5 _ rfl
  have c6 := c 6 _ rfl
  have c7 := c 7 _ rfl
  have c8 := c 8 _ rfl
  have c9 := c 9 _ rfl
  have d0 := d 0 _ rfl
  have d1 := d 1 _ rfl
  have d2 := d 2 _ rfl
  have d3 := d 3 _ rfl
  have d4 := d 4 _ rfl
  have d5 := d 5 _ rfl
  have d6 := d 6 _ rfl
  have d7 := d 7 _ rfl
  have d8 := d 8 _ rfl
  have d9 := d 9 _ rfl
  rw [hx, hy]
  clear c d hx hy
  go_enter Try.func21, Try.ntmps21
  go_wp2_with fail
  go_quiet (fail)
  go_wp2_with fail
  go_ret
  exact ⟨by simp, below_drewN (Below.refl _ _) _⟩

/-- A slice that a walk has laid out. -/
theorem rd_made (w : World) (l : List Int) (fr : Nat × Nat) : RdS intE (w.alloc (.cells (i64L l).toArray 3 fr)) (some ⟨w.heap.size, 0, none⟩) l.length l.length l := by
  refine ⟨Rd.mk_some fun i u hu => ?_, rfl, Nat.le_refl _, fun e => by cases e⟩
  have e : ∀ l : List Int, l.flatMap intE.enc = i64L l := fun l => by
    induction l with
    | nil => rfl
    | cons x l ih => rw [List.flatMap_cons, ih]; rfl
  rw [e] at hu
  unfold World.cell?
  rw [heap_alloc_new]
  simpa using hu

set_option maxRecDepth 100000 in
set_option maxHeartbeats 4000000 in
theorem told_any (w : World) : Calls Try.prog 10 #[] w fun e w' => e = .returned (.bool true) ∧ Below w.heap.size w w' := by
  go_enter Try.func10, Try.ntmps10
  go_wp2_with fail
  refine (splitC_any (total := 10) (rd_made w [1, 1, 1] (0, 0)) (by simp)).mono ?_
  rintro e w1 ⟨ao1, n1, c1, rfl, ho1, hb1⟩
  rw [show splitF 10 [1, 1, 1] = ([4, 3, 3], 0) from by decide] at ho1 ⊢
  have hb1 := below_trans (below_alloc w _) hb1
  obtain rfl : 3 = n1 := ho1.len
  have ho1 := ho1.mono (base' := w.heap.size) (by simp)
  go_wp2_with fail
  refine (splitC_any (total := 7) (rd_made w1 [0, 2, 1] (0, 0)) (by simp)).mono ?_
  rintro e w2 ⟨ao2, n2, c2, rfl, ho2, hb2⟩
  rw [show splitF 7 [0, 2, 1] = ([0, 5, 2], 0) from by decide] at ho2 ⊢
  have hb2 := below_trans (below_alloc w1 _) hb2
  obtain rfl : 3 = n2 := ho2.len
  have ho1 := ho1.below hb2
  have hb := below_trans hb1 hb2
  go_wp2_with fail
  refine (alike_any (ho1.rd.below (below_alloc w2 _)) (rd_made w2 [4, 3, 3] (0, 0)) (by simp) (by simp)).mono ?_
  rintro e w3 ⟨rfl, hb3⟩
  rw [show decide (([4, 3, 3] : List Int) = [4, 3, 3]) = true from by decide]
  have hb3 := below_trans (below_alloc w2 _) hb3
  have ho2 := ho2.below hb3
  have hb := below_trans hb hb3
  go_wp2_with fail
  refine (alike_any (ho2.rd.below (below_alloc w3 _)) (rd_made w3 [0, 5, 2] (0, 0)) (by simp) (by simp)).mono ?_
  rintro e w4 ⟨rfl, hb4⟩
  rw [show decide (([0, 5, 2] : List Int) = [0, 5, 2]) = true from by decide]
  have hb := below_trans hb (below_trans (below_alloc w3 _) hb4)
  go_wp2_with fail
  refine (newpot_ok (amount := 10) (n := 2) (by decide)).mono ?_
  rintro e w5 ⟨g, rfl, h, hk, hb5⟩
  have hle : w.heap.size ≤ g := Nat.le_trans hb.size h.le
  have hb := below_trans hb hb5
  go_wp2_with fail
  refine (pay_any (seat := 1) (ask := 7) h hk).mono ?_
  rintro e w6 ⟨rfl, h, hg⟩
  have hk := hk.pay 1 7
  have hb := hb.grown hg hb.size (fun k hk => by cases hk; exact hle)
  rw [show paidF ⟨10, List.replicate 2 0⟩ 7 = 7 from by decide]
  rw [show payF ⟨10, List.replicate 2 0⟩ 1 7 = ⟨3, [0, 7]⟩ from rfl] at h hk
  go_wp2_with fail
  refine (pay_any (seat := 5) (ask := 9) h hk).mono ?_
  rintro e w7 ⟨rfl, h, hg⟩
  have hk := hk.pay 5 9
  have hb := hb.grown hg hb.size (fun k hk => by cases hk; exact hle)
  rw [show paidF ⟨3, [0, 7]⟩ 9 = 3 from by decide]
  rw [show payF ⟨3, [0, 7]⟩ 5 9 = ⟨0, [3, 7]⟩ from rfl] at h hk
  go_wp2_with fail
  refine (rest_any (seat := 1) h hk).mono ?_
  rintro e w8 ⟨ao8, c8, rfl, h, hg, ho8⟩
  have hb := hb.grown hg hb.size (fun k hk => by cases hk; exact hle)
  rw [show payF ⟨0, [3, 7]⟩ 1 0 = ⟨0, [3, 7]⟩ from rfl] at h ho8 ⊢
  go_wp2_with fail
  refine (alike_any (ho8.rd.below (below_alloc w8 _)) (rd_made w8 [3, 7] (0, 0)) (by simp) (by simp)).mono ?_
  rintro e w9 ⟨rfl, hb9⟩
  rw [show decide (([3, 7] : List Int) = [3, 7]) = true from by decide]
  have hb := below_trans hb (below_trans (below_alloc w8 _) hb9)
  go_wp2_with fail
  go_ret
  exact ⟨rfl, hb⟩
end Go.Proofs.Ytmdmgmddblokoaa
