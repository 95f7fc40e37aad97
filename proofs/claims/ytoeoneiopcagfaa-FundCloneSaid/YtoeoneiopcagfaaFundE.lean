/- The layer fund: full, Phase, Back, each by its walk. -/
import Derived.Test.YtoeoneiopcagfaaFundD
namespace Go.Proofs.Ytoeoneiopcagfaa
open Go.RowKit

/-- Are two lists of marks the same, as a word that the walk leaves alone. -/
def mEq (a b : List Bool) : Bool := decide (a = b)

set_option maxRecDepth 100000 in
set_option maxHeartbeats 2000000 in
theorem mark_eqIn (w : World) (d : Nat) (a0 a1 a2 a3 a4 a5 a6 a7 b0 b1 b2 b3 b4 b5 b6 b7 : Bool) :
    (Op.equalIn (d + 2) 63 (.agg #[.bool a0, .bool a1, .bool a2, .bool a3, .bool a4, .bool a5, .bool a6, .bool a7]) (.agg #[.bool b0, .bool b1, .bool b2, .bool b3, .bool b4, .bool b5, .bool b6, .bool b7])).run Try.prog w =
      .ok (decide ([a0, a1, a2, a3, a4, a5, a6, a7] = [b0, b1, b2, b3, b4, b5, b6, b7])) w := by
  obtain ⟨i, hi⟩ : ∃ i, Try.prog.info? 4 = some i := ⟨_, rfl⟩
  have hc : Try.prog.cellsOf 4 = 1 := by kernel_rfl
  have hu := Try.underlying4
  rw [run_equalIn_array w (d + 1) _ _ Try.underlying63 hi, hc]
  simp [List.range, List.range.loop, Op.eqItems, go_sem, hu]
  repeat' split
  all_goals simp_all

theorem mark_eql (w : World) (a0 a1 a2 a3 a4 a5 a6 a7 b0 b1 b2 b3 b4 b5 b6 b7 : Bool) :
    (binOp .eql 63 (.agg #[.bool a0, .bool a1, .bool a2, .bool a3, .bool a4, .bool a5, .bool a6, .bool a7]) (.agg #[.bool b0, .bool b1, .bool b2, .bool b3, .bool b4, .bool b5, .bool b6, .bool b7])).run Try.prog w =
      .ok (.bool (mEq [a0, a1, a2, a3, a4, a5, a6, a7] [b0, b1, b2, b3, b4, b5, b6, b7])) w := by
  unfold binOp Op.equal Op.maxDepth mEq
  rw [Sem.run_bind, show (10000 : Nat) = 9998 + 2 from rfl, mark_eqIn]
  rfl
attribute [go_sem high] mark_eql

theorem pad_full {n : Nat} {l : List Bool} (hl : l.length = n) (h8 : n ≤ 8) : mEq (padL n l) (allB n) = l.all id := by
  unfold mEq padL
  rw [allB_is h8, Bool.eq_iff_iff]
  simp only [decide_eq_true_eq]
  constructor
  · intro h
    have h2 := (List.append_inj h (by rw [hl]; simp)).1
    rw [h2, List.all_eq_true]
    intro x hx
    rw [List.eq_of_mem_replicate hx]
    rfl
  · intro h
    congr 1
    rw [List.all_eq_true] at h
    exact List.eq_replicate_iff.2 ⟨hl, fun x hx => h x hx⟩

theorem eight_ex {l : List Bool} (h : l.length = 8) : ∃ a0 a1 a2 a3 a4 a5 a6 a7, l = [a0, a1, a2, a3, a4, a5, a6, a7] := by
  match l, h with
  | [a0, a1, a2, a3, a4, a5, a6, a7], _ => exact ⟨a0, a1, a2, a3, a4, a5, a6, a7, rfl⟩

theorem padL_len {n : Nat} {l : List Bool} (hl : l.length = n) (h8 : n ≤ 8) : (padL n l).length = 8 := by unfold padL; simp; omega

/-- The eight marks of a fund, as its cells. -/
def Cells8 (w : World) (g : Nat) (a0 a1 a2 a3 a4 a5 a6 a7 : Bool) : Prop :=
  w.cell? ⟨g, 2, none⟩ = some (.bool a0) ∧ w.cell? ⟨g, 3, none⟩ = some (.bool a1) ∧ w.cell? ⟨g, 4, none⟩ = some (.bool a2) ∧ w.cell? ⟨g, 5, none⟩ = some (.bool a3) ∧
  w.cell? ⟨g, 6, none⟩ = some (.bool a4) ∧ w.cell? ⟨g, 7, none⟩ = some (.bool a5) ∧ w.cell? ⟨g, 8, none⟩ = some (.bool a6) ∧ w.cell? ⟨g, 9, none⟩ = some (.bool a7)

theorem FundQ.cells8 {w : World} {base g c : Nat} {so : Option Addr} {f : FundX} (h : FundQ w base g so c f) {a0 a1 a2 a3 a4 a5 a6 a7 : Bool} (hp : padL f.stakes.length f.laid = [a0, a1, a2, a3, a4, a5, a6, a7]) : Cells8 w g a0 a1 a2 a3 a4 a5 a6 a7 := by
  have hc := fun k v hk => h.cell k v hk
  unfold fundL at hc
  rw [hp] at hc
  exact ⟨hc 2 _ rfl, hc 3 _ rfl, hc 4 _ rfl, hc 5 _ rfl, hc 6 _ rfl, hc 7 _ rfl, hc 8 _ rfl, hc 9 _ rfl⟩

set_option maxRecDepth 100000 in
set_option maxHeartbeats 4000000 in
theorem full_any {w : World} {base g : Nat} {f : FundX} (h : FundP w base g f) (hk : f.Ok) :
    Calls Try.prog 32 #[.pointer (some ⟨g, 0, none⟩)] w fun e w' => e = .returned (.bool (fullF f)) ∧ Below w.heap.size w w' := by
  obtain ⟨a0, a1, a2, a3, a4, a5, a6, a7, ha⟩ := eight_ex (padL_len hk.len hk.most)
  have hf : mEq [a0, a1, a2, a3, a4, a5, a6, a7] (allB f.stakes.length) = fullF f := by rw [← ha]; exact pad_full hk.len hk.most
  have hcells : ∀ W, Below w.heap.size w W → Cells8 W g a0 a1 a2 a3 a4 a5 a6 a7 := fun W hb => by
    obtain ⟨so, sc, hq⟩ := h.below hb
    exact hq.cells8 ha
  obtain ⟨b0, b1, b2, b3, b4, b5, b6, b7, hb⟩ : ∃ b0 b1 b2 b3 b4 b5 b6 b7, allB f.stakes.length = [b0, b1, b2, b3, b4, b5, b6, b7] := ⟨_, _, _, _, _, _, _, _, rfl⟩
  have hall := fun W (hW : Below w.heap.size w W) => (all_any (h.below hW) hk rfl).mono (R' := fun e w' => e = .returned (.agg #[.bool b0, .bool b1, .bool b2, .bool b3, .bool b4, .bool b5, .bool b6, .bool b7]) ∧ Below W.heap.size W w') fun e w' ⟨h1, h2⟩ => ⟨by rw [h1, hb]; rfl, h2⟩
  rw [hb] at hf
  have hb0 : Below w.heap.size w w.drew := (Below.refl _ _).drew
  have HF := hide hf
  have HC := hide hcells
  have HA := hide hall
  clear hf ha hb hcells hall
  go_enter Try.func32, Try.ntmps32
  go_wp2_with fail
  go_region_held3 (fun w' : World => w'.cell? ⟨g, 2, none⟩ = some (.bool a0) ∧ w'.cell? ⟨g, 3, none⟩ = some (.bool a1) ∧ w'.cell? ⟨g, 4, none⟩ = some (.bool a2) ∧ w'.cell? ⟨g, 5, none⟩ = some (.bool a3) ∧
      w'.cell? ⟨g, 6, none⟩ = some (.bool a4) ∧ w'.cell? ⟨g, 7, none⟩ = some (.bool a5) ∧ w'.cell? ⟨g, 8, none⟩ = some (.bool a6) ∧ w'.cell? ⟨g, 9, none⟩ = some (.bool a7)) (first | exact HC.out _ hb0 | exact HC.out _ hb1) (first
    | (go_at_call 41; refine (HA.out _ hb0).mono ?_; rintro e w1 ⟨rfl, hb1'⟩; have hb1 := below_trans hb0 hb1'))
  all_goals
    go_wp2_with fail
    go_ret
    exact ⟨by rw [← HF.out]; rfl, hb1⟩
end Go.Proofs.Ytoeoneiopcagfaa
