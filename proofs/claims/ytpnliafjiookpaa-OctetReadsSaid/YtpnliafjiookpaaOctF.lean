/- Arguments that are slices of bytes. -/
import Derived.Test.YtpnliafjiookpaaOctK
import Derived.Test.YtpnliafjiookpaaFrame
namespace Go.Proofs.Ytpnliafjiookpaa
open Go.RowKit Go.ChangeShapes

theorem one_by {W : World} {v : Value} (h : One W 22 v) : ∃ ao n c l, v = .slice ao n c ∧ RdB W ao n c l ∧ n ≤ 140737488351232 ∧ c ≤ 140737488351232 := by
  obtain ⟨ao, n, c, l, e, hr, _, _, hb⟩ := one_sl (E := byteE) (G := fun _ => True) Try.underlying22 (by kernel_rfl) (fun H enc fuel cs y hy _ _ => by
    obtain ⟨z, rfl, hw⟩ := tr_int Try.underlying5 hy
    obtain ⟨h0, h1⟩ := bounds_u8 hw
    refine ⟨UInt8.ofNat z.toNat, ?_, trivial⟩
    simp [byteE]
    omega) (by decide) h
  have hby : Try.prog.bytesOf byteE.e = 1 := by kernel_rfl
  rw [hby] at hb
  unfold reachBytes at hb
  have := hr.cap
  exact ⟨ao, n, c, l, e, hr, by omega, by omega⟩

end Go.Proofs.Ytpnliafjiookpaa
