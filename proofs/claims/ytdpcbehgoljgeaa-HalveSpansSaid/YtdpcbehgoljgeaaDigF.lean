/- Arguments that hold digests, read. -/
import Derived.Test.YtdpcbehgoljgeaaFrame
import Derived.Test.YtdpcbehgoljgeaaDig
namespace Go.Proofs.Ytdpcbehgoljgeaa
open Go.ChangeShapes Go.WideShapes Go.ChangeAt Go.RowKit

theorem tr_u8 {H : Type} {enc : TypeId × Value → H} {W : World} {t : TypeId} (hu : Try.prog.underlying t = some (.int .u8)) {fuel : Nat} {c : Value} {y : DataW H × List MemPlace} (h : Tr H enc W fuel t [c] = some y) :
    ∃ z : Nat, c = .int .u8 z ∧ z < 256 := by
  obtain ⟨z, e, hw⟩ := tr_int hu h
  obtain ⟨h0, h1⟩ := bounds_u8 hw
  simp at e
  exact ⟨z.toNat, by rw [Int.toNat_of_nonneg h0]; exact e, by omega⟩

theorem cell_of_nat {z : Nat} (h : z < 256) : Value.int .u8 (z : Int) = Extern.Stop.cell (UInt8.ofNat z) := by
  unfold Extern.Stop.cell
  rw [UInt8.toNat_ofNat', Nat.mod_eq_of_lt h]
  rfl

theorem tr_dig {H : Type} {enc : TypeId × Value → H} {W : World} {t : TypeId} (hu : Try.prog.underlying t = some (.array 8 5)) (hc : Try.prog.cellsOf t = 8) {fuel : Nat} {cs : List Value} {y : DataW H × List MemPlace} (h : Tr H enc W fuel t cs = some y) :
    ∃ d : Dig, digL d = cs := by
  obtain ⟨xs, m, _, _, hl, hxl, hf⟩ := DataW.trod_array hu h
  rw [hc] at hl
  have hcu : Try.prog.cellsOf 5 = 1 := by kernel_rfl
  have hcell : ∀ i, i < 8 → ∃ z : Nat, cs[i]? = some (.int .u8 z) ∧ z < 256 := by
    intro i hi
    have h1 := hf i hi
    rw [hcu, Nat.mul_one, List.drop_eq_getElem_cons (by omega), List.getElem?_eq_getElem (by omega)] at h1
    obtain ⟨z, e, hz⟩ := tr_u8 Try.underlying5 h1
    exact ⟨z, by rw [List.getElem?_eq_getElem (by omega), e], hz⟩
  match cs, hl, hcell with
  | [c0, c1, c2, c3, c4, c5, c6, c7], _, hcell =>
    obtain ⟨z0, e0, q0⟩ := hcell 0 (by omega)
    obtain ⟨z1, e1, q1⟩ := hcell 1 (by omega)
    obtain ⟨z2, e2, q2⟩ := hcell 2 (by omega)
    obtain ⟨z3, e3, q3⟩ := hcell 3 (by omega)
    obtain ⟨z4, e4, q4⟩ := hcell 4 (by omega)
    obtain ⟨z5, e5, q5⟩ := hcell 5 (by omega)
    obtain ⟨z6, e6, q6⟩ := hcell 6 (by omega)
    obtain ⟨z7, e7, q7⟩ := hcell 7 (by omega)
    cases e0; cases e1; cases e2; cases e3; cases e4; cases e5; cases e6; cases e7
    refine ⟨⟨[.ofNat z0, .ofNat z1, .ofNat z2, .ofNat z3, .ofNat z4, .ofNat z5, .ofNat z6, .ofNat z7], rfl⟩, ?_⟩
    unfold digL
    simp only [List.map_cons, List.map_nil, cell_of_nat q0, cell_of_nat q1, cell_of_nat q2, cell_of_nat q3, cell_of_nat q4, cell_of_nat q5, cell_of_nat q6, cell_of_nat q7]

end Go.Proofs.Ytdpcbehgoljgeaa
