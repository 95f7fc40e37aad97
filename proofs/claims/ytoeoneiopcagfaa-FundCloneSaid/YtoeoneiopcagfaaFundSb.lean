/- The layer fund: Same, of two funds of the same stakes and height; what a deed does to it; an act as an argument. -/
import Derived.Test.YtoeoneiopcagfaaFundRe
import Derived.Test.YtoeoneiopcagfaaFundF
namespace Go.Proofs.Ytoeoneiopcagfaa
open Go.RowKit Go.ChangeShapes Go.WideShapes Go.ChangeAt

/-- Have two funds of the same stakes the same laid? -/
def laidB (f f2 : FundX) : Bool := decide (padL f.stakes.length f.laid = padL f.stakes.length f2.laid)

theorem laidB_self (f : FundX) : laidB f f = true := by simp [laidB]

theorem pad_set {n k : Nat} {l : List Bool} {z : Bool} (hk : k < l.length) (h : l.getD k false ≠ z) : padL n (l.set k z) ≠ padL n l := fun e => by
  unfold padL at e
  have h1 := (List.append_inj e (by simp)).1
  have h2 : (l.set k z).getD k false = l.getD k false := by rw [h1]
  rw [List.getD_eq_getElem?_getD, List.getElem?_set_self hk] at h2
  exact h h2.symm

theorem layF_due (f : FundX) (a b c : Int) : (layF f a b c).1.due = f.due := by
  unfold layF; split; rfl; split; rfl; split; rfl; split <;> rfl
theorem backF_due (f : FundX) (a : Int) : (backF f a).1.due = f.due := by
  unfold backF; split; rfl; split; rfl; split <;> rfl

theorem lay_laid {f : FundX} (hk : f.Ok) (seat amount now : Int) : laidB (layF f seat amount now).1 f = ((layF f seat amount now).2 != 0) := by
  rcases lay_cases hk rfl seat amount now with ⟨_, e⟩ | ⟨_, _, e⟩ | ⟨k, rfl, hkn, ⟨_, e⟩ | ⟨_, _, e⟩ | ⟨_, _, _, e⟩ | ⟨_, t2, _, e⟩⟩
  all_goals rw [e]
  all_goals try (rw [laidB_self]; rfl)
  unfold laidB
  rw [decide_eq_false]
  · rfl
  · exact pad_set (by rw [hk.len]; exact hkn) (by rw [t2]; simp)

theorem back_laid {f : FundX} (hk : f.Ok) (seat : Int) : laidB (backF f seat).1 f = ((backF f seat).2.2 != 0) := by
  rcases back_cases hk rfl seat with ⟨_, e⟩ | ⟨_, _, e⟩ | ⟨k, rfl, hkn, ⟨_, e⟩ | ⟨_, _, e⟩ | ⟨t2, _, e⟩⟩
  all_goals rw [e]
  all_goals try (rw [laidB_self]; rfl)
  unfold laidB
  rw [decide_eq_false]
  · rfl
  · exact pad_set (by rw [hk.len]; exact hkn) (by rw [t2]; simp)

set_option maxRecDepth 100000 in
set_option maxHeartbeats 4000000 in
theorem same_laid {w : World} {base g base2 g2 : Nat} {f f2 : FundX} (h : FundP w base g f) (h2 : FundP w base2 g2 f2) (hk : f.Ok) (hk2 : f2.Ok) (hst : f2.stakes = f.stakes) (hdu : f2.due = f.due) :
    Calls Try.prog 16 #[.pointer (some ⟨g, 0, none⟩), .pointer (some ⟨g2, 0, none⟩)] w fun e w' => e = .returned (.bool (laidB f f2)) ∧ Below w.heap.size w w' := by
  have hln : f2.stakes.length = f.stakes.length := by rw [hst]
  obtain ⟨a0, a1, a2, a3, a4, a5, a6, a7, ha⟩ := eight_ex (padL_len hk.len hk.most)
  obtain ⟨b0, b1, b2, b3, b4, b5, b6, b7, hb⟩ := eight_ex (padL_len hk2.len hk2.most)
  obtain ⟨so, sc, h⟩ := h
  obtain ⟨so2, sc2, h2⟩ := h2
  have hres : laidB f f2 = mEq [a0, a1, a2, a3, a4, a5, a6, a7] [b0, b1, b2, b3, b4, b5, b6, b7] := by unfold laidB mEq; rw [← ha, ← hb, hln]
  have hcells : ∀ W, Below w.heap.size w W → (W.cell? ⟨g, 0, none⟩ = some (.slice so f.stakes.length sc) ∧ W.cell? ⟨g, 1, none⟩ = some (.int .i64 f.due) ∧ W.cell? ⟨g2, 0, none⟩ = some (.slice so2 f.stakes.length sc2) ∧ W.cell? ⟨g2, 1, none⟩ = some (.int .i64 f.due)) ∧
      Cells8 W g a0 a1 a2 a3 a4 a5 a6 a7 ∧ Cells8 W g2 b0 b1 b2 b3 b4 b5 b6 b7 := fun W hW =>
    ⟨⟨(h.below hW).c_stakes, (h.below hW).c_due, by rw [← hln]; exact (h2.below hW).c_stakes, by rw [← hdu]; exact (h2.below hW).c_due⟩, (h.below hW).cells8 ha, (h2.below hW).cells8 hb⟩
  have hm : f.stakes.length ≤ 140737488351232 := by have := hk.most; omega
  have hb0 : Below w.heap.size w w.drew := (Below.refl _ _).drew
  have hr2 : RdS intE w so2 f.stakes.length sc2 f.stakes := by rw [← hst]; exact h2.own.rd
  have heq := (equalI_any (h.own.rd.below hb0) (hr2.below hb0) hm hm).mono (R' := fun e w' => e = .returned (.bool true) ∧ Below w.drew.heap.size w.drew w') fun e w' ⟨p1, p2⟩ => ⟨by rw [p1]; simp, p2⟩
  have HC := hide hcells
  have HQ := hide heq
  have HRES := hide hres
  rw [hres]
  clear hcells heq ha hb h h2 hk hk2 hr2 hst hdu hln hres HRES
  generalize f.stakes.length = n at *
  generalize f.due = due at *
  go_enter Try.func16, Try.ntmps16
  go_wp2_with fail
  go_region_held3 (fun w' : World => (w'.cell? ⟨g, 0, none⟩ = some (.slice so n sc) ∧ w'.cell? ⟨g, 1, none⟩ = some (.int .i64 due) ∧ w'.cell? ⟨g2, 0, none⟩ = some (.slice so2 n sc2) ∧ w'.cell? ⟨g2, 1, none⟩ = some (.int .i64 due)) ∧
      (w'.cell? ⟨g, 2, none⟩ = some (.bool a0) ∧ w'.cell? ⟨g, 3, none⟩ = some (.bool a1) ∧ w'.cell? ⟨g, 4, none⟩ = some (.bool a2) ∧ w'.cell? ⟨g, 5, none⟩ = some (.bool a3) ∧
      w'.cell? ⟨g, 6, none⟩ = some (.bool a4) ∧ w'.cell? ⟨g, 7, none⟩ = some (.bool a5) ∧ w'.cell? ⟨g, 8, none⟩ = some (.bool a6) ∧ w'.cell? ⟨g, 9, none⟩ = some (.bool a7)) ∧
      (w'.cell? ⟨g2, 2, none⟩ = some (.bool b0) ∧ w'.cell? ⟨g2, 3, none⟩ = some (.bool b1) ∧ w'.cell? ⟨g2, 4, none⟩ = some (.bool b2) ∧ w'.cell? ⟨g2, 5, none⟩ = some (.bool b3) ∧
      w'.cell? ⟨g2, 6, none⟩ = some (.bool b4) ∧ w'.cell? ⟨g2, 7, none⟩ = some (.bool b5) ∧ w'.cell? ⟨g2, 8, none⟩ = some (.bool b6) ∧ w'.cell? ⟨g2, 9, none⟩ = some (.bool b7))) (first | exact HC.out _ hb0 | exact HC.out _ hbq) (first
    | (go_at_call 31; refine HQ.out.mono ?_; rintro e w1 ⟨rfl, hbq'⟩; have hbq := below_trans hb0 hbq'))
  all_goals
    go_wp2_with fail
    go_ret
    exact ⟨by first | rfl | simp, hbq⟩

theorem one_act {W : World} {v : Value} (h : One W 44 v) : ∃ x : ActX, v = .agg #[.bool x.back, .int .i64 x.seat, .int .i64 x.amount, .int .i64 x.now] := by
  obtain ⟨H, enc, d, p, base, ⟨fuel, hd⟩, hf, hv⟩ := h
  obtain ⟨cs, rfl, hsz⟩ := okWide_struct Try.underlying44 hv
  have c3 : Try.prog.cellsOf 44 = 4 := by kernel_rfl
  rw [c3] at hsz
  obtain ⟨x, hx, _⟩ := act_dec H enc fuel cs.toList (d, p) hd (by simpa [actE] using hsz) hf
  refine ⟨x, ?_⟩
  have : cs = #[.bool x.back, .int .i64 x.seat, .int .i64 x.amount, .int .i64 x.now] := by
    apply Array.ext'
    rw [← hx]
    rfl
  rw [this]
end Go.Proofs.Ytoeoneiopcagfaa
