/- The layer fund: Same, of two funds that are the same. -/
import Derived.Test.YtoeoneiopcagfaaFundG
namespace Go.Proofs.Ytoeoneiopcagfaa
open Go.RowKit

set_option maxRecDepth 100000 in
set_option maxHeartbeats 4000000 in
theorem same_yes {w : World} {base g base2 g2 : Nat} {f : FundX} (h : FundP w base g f) (h2 : FundP w base2 g2 f) (hk : f.Ok) :
    Calls Try.prog 16 #[.pointer (some ⟨g, 0, none⟩), .pointer (some ⟨g2, 0, none⟩)] w fun e w' => e = .returned (.bool true) ∧ Below w.heap.size w w' := by
  obtain ⟨a0, a1, a2, a3, a4, a5, a6, a7, ha⟩ := eight_ex (padL_len hk.len hk.most)
  obtain ⟨so, sc, h⟩ := h
  obtain ⟨so2, sc2, h2⟩ := h2
  have hcells : ∀ W, Below w.heap.size w W → (W.cell? ⟨g, 0, none⟩ = some (.slice so f.stakes.length sc) ∧ W.cell? ⟨g, 1, none⟩ = some (.int .i64 f.due) ∧ W.cell? ⟨g2, 0, none⟩ = some (.slice so2 f.stakes.length sc2) ∧ W.cell? ⟨g2, 1, none⟩ = some (.int .i64 f.due)) ∧
      Cells8 W g a0 a1 a2 a3 a4 a5 a6 a7 ∧ Cells8 W g2 a0 a1 a2 a3 a4 a5 a6 a7 := fun W hb =>
    ⟨⟨(h.below hb).c_stakes, (h.below hb).c_due, (h2.below hb).c_stakes, (h2.below hb).c_due⟩, (h.below hb).cells8 ha, (h2.below hb).cells8 ha⟩
  have hm : f.stakes.length ≤ 140737488351232 := by have := hk.most; omega
  have hb0 : Below w.heap.size w w.drew := (Below.refl _ _).drew
  have heq := (equalI_any (h.own.rd.below hb0) (h2.own.rd.below hb0) hm hm).mono (R' := fun e w' => e = .returned (.bool true) ∧ Below w.drew.heap.size w.drew w') fun e w' ⟨p1, p2⟩ => ⟨by rw [p1]; simp, p2⟩
  have he : mEq [a0, a1, a2, a3, a4, a5, a6, a7] [a0, a1, a2, a3, a4, a5, a6, a7] = true := by simp [mEq]
  have HC := hide hcells
  have HQ := hide heq
  clear hcells heq ha h h2 hk
  generalize f.stakes.length = n at *
  generalize f.due = due at *
  go_enter Try.func16, Try.ntmps16
  go_wp2_with fail
  go_region_held3 (fun w' : World => (w'.cell? ⟨g, 0, none⟩ = some (.slice so n sc) ∧ w'.cell? ⟨g, 1, none⟩ = some (.int .i64 due) ∧ w'.cell? ⟨g2, 0, none⟩ = some (.slice so2 n sc2) ∧ w'.cell? ⟨g2, 1, none⟩ = some (.int .i64 due)) ∧
      (w'.cell? ⟨g, 2, none⟩ = some (.bool a0) ∧ w'.cell? ⟨g, 3, none⟩ = some (.bool a1) ∧ w'.cell? ⟨g, 4, none⟩ = some (.bool a2) ∧ w'.cell? ⟨g, 5, none⟩ = some (.bool a3) ∧
      w'.cell? ⟨g, 6, none⟩ = some (.bool a4) ∧ w'.cell? ⟨g, 7, none⟩ = some (.bool a5) ∧ w'.cell? ⟨g, 8, none⟩ = some (.bool a6) ∧ w'.cell? ⟨g, 9, none⟩ = some (.bool a7)) ∧
      (w'.cell? ⟨g2, 2, none⟩ = some (.bool a0) ∧ w'.cell? ⟨g2, 3, none⟩ = some (.bool a1) ∧ w'.cell? ⟨g2, 4, none⟩ = some (.bool a2) ∧ w'.cell? ⟨g2, 5, none⟩ = some (.bool a3) ∧
      w'.cell? ⟨g2, 6, none⟩ = some (.bool a4) ∧ w'.cell? ⟨g2, 7, none⟩ = some (.bool a5) ∧ w'.cell? ⟨g2, 8, none⟩ = some (.bool a6) ∧ w'.cell? ⟨g2, 9, none⟩ = some (.bool a7))) (first | exact HC.out _ hb0 | exact HC.out _ hb1) (first
    | (go_at_call 31; refine HQ.out.mono ?_; rintro e w1 ⟨rfl, hb1'⟩; have hb1 := below_trans hb0 hb1'))
  all_goals
    go_wp2_with fail
    go_ret
    exact ⟨by first | rfl | simp [he], hb1⟩
end Go.Proofs.Ytoeoneiopcagfaa
