/- Arguments that hold stakes and acts, read. -/
import Derived.Test.YtoeoneiopcagfaaFrameS
namespace Go.Proofs.Ytoeoneiopcagfaa
open Go.ChangeShapes Go.WideShapes Go.ChangeAt Go.RowKit

theorem open_ints {H : Type} {enc : TypeId × Value → H} {W : World} {fuel : Nat} {cs : List Value} {y : DataW H × List MemPlace} (h : Tr H enc W fuel 22 cs = some y) (hf : Fits 22 y.1) :
    ∃ ao n c l, cs = [.slice ao n c] ∧ RdS intE W ao n c l ∧ (∀ x ∈ l, I64 x) ∧ n ≤ 17592186043904 := by
  obtain ⟨ao, n, c, l, e, hR, hG, _, hb⟩ := open_sl (E := intE) (G := I64) Try.underlying22 (by kernel_rfl) (fun fuel cs y h1 h2 h3 => int_dec H enc fuel cs y h1 h2 h3) (by decide) h hf
  have hby : Try.prog.bytesOf intE.e = 8 := by kernel_rfl
  rw [hby] at hb
  unfold reachBytes at hb
  have := hR.cap
  exact ⟨ao, n, c, l, e, hR, hG, by omega⟩

/-- Stakes, and the height by which. -/
theorem one_start {W : World} {v : Value} (h : One W 24 v) : ∃ ao n c l due, v = .agg #[.slice ao n c, .int .i64 due] ∧ RdS intE W ao n c l ∧ (∀ x ∈ l, I64 x) ∧ n ≤ 17592186043904 ∧ I64 due := by
  obtain ⟨H, enc, d, p, base, ⟨fuel, hd⟩, hf, hv⟩ := h
  obtain ⟨cs, rfl, hsz⟩ := okWide_struct Try.underlying24 hv
  obtain ⟨m, hl, hx⟩ := open_st Try.underlying24 hd hf
  have c1 : Try.prog.cellsOf 3 = 1 := by kernel_rfl
  have c2 : Try.prog.cellsOf 22 = 1 := by kernel_rfl
  have c3 : Try.prog.cellsOf 24 = 2 := by kernel_rfl
  rw [c3] at hsz
  obtain ⟨y0, h0, f0⟩ := hx 0 _ rfl
  obtain ⟨y1, h1, _⟩ := hx 1 _ rfl
  match cs, hsz with
  | ⟨[a, b]⟩, _ =>
    have h0 : Tr H enc W m 22 (([a, b].drop 0).take (Try.prog.cellsOf 22)) = some y0 := h0
    have h1 : Tr H enc W m 3 (([a, b].drop 1).take (Try.prog.cellsOf 3)) = some y1 := h1
    rw [c2] at h0
    rw [c1] at h1
    obtain ⟨ao, n, c, l, e0, r1, r2, r3⟩ := open_ints h0 f0
    obtain ⟨z1, e1, g1⟩ := tr_i64 Try.underlying3 h1
    cases e0
    cases e1
    exact ⟨ao, n, c, l, z1, rfl, r1, r2, r3, g1⟩

/-- An act. -/
structure ActX where
  back : Bool
  seat : Int
  amount : Int
  now : Int
instance : Inhabited ActX := ⟨⟨false, 0, 0, 0⟩⟩

def actE : El ActX := ⟨44, 4, fun x => [.bool x.back, .int .i64 x.seat, .int .i64 x.amount, .int .i64 x.now]⟩
theorem actE_ok : actE.Ok := ⟨fun _ => rfl, by decide, fun x u hu => by
  simp only [actE, List.mem_cons, List.not_mem_nil, or_false] at hu
  rcases hu with rfl | rfl | rfl | rfl <;> rfl⟩

theorem act_at {w : World} {ao : Option Addr} {n c i : Nat} {l : List ActX} {x : ActX} (hR : RdS actE w ao n c l) (hx : l[i]? = some x) :
    ∃ b o, ao = some ⟨b, o, none⟩ ∧ w.cell? ⟨b, o + i * 4, none⟩ = some (.bool x.back) ∧ w.cell? ⟨b, o + i * 4 + 1, none⟩ = some (.int .i64 x.seat) ∧ w.cell? ⟨b, o + i * 4 + 2, none⟩ = some (.int .i64 x.amount) ∧
      w.cell? ⟨b, o + i * 4 + 3, none⟩ = some (.int .i64 x.now) := by
  obtain ⟨b, o, rfl, h0⟩ := hR.cell actE_ok hx (j := 0) rfl
  obtain ⟨b', o', e, h1⟩ := hR.cell actE_ok hx (j := 1) rfl
  cases e
  obtain ⟨b', o', e, h2⟩ := hR.cell actE_ok hx (j := 2) rfl
  cases e
  obtain ⟨b', o', e, h3⟩ := hR.cell actE_ok hx (j := 3) rfl
  cases e
  exact ⟨b, o, rfl, h0, h1, h2, h3⟩

theorem act_dec (H : Type) (enc : TypeId × Value → H) {W : World} (fuel : Nat) (cs : List Value) (y : DataW H × List MemPlace) (h : Tr H enc W fuel actE.e cs = some y) (hlen : cs.length = actE.size) (hf : Fits actE.e y.1) :
    ∃ x, actE.enc x = cs ∧ True := by
  obtain ⟨n, hl, hx⟩ := open_st Try.underlying44 h hf
  have c1 : Try.prog.cellsOf 3 = 1 := by kernel_rfl
  have c2 : Try.prog.cellsOf 4 = 1 := by kernel_rfl
  obtain ⟨y0, h0, _⟩ := hx 0 _ rfl
  obtain ⟨y1, h1, _⟩ := hx 1 _ rfl
  obtain ⟨y2, h2, _⟩ := hx 2 _ rfl
  obtain ⟨y3, h3, _⟩ := hx 3 _ rfl
  match cs, hlen with
  | [a, b, c, d], _ =>
    have h0 : Tr H enc W n 4 (([a, b, c, d].drop 0).take (Try.prog.cellsOf 4)) = some y0 := h0
    have h1 : Tr H enc W n 3 (([a, b, c, d].drop 1).take (Try.prog.cellsOf 3)) = some y1 := h1
    have h2 : Tr H enc W n 3 (([a, b, c, d].drop 2).take (Try.prog.cellsOf 3)) = some y2 := h2
    have h3 : Tr H enc W n 3 (([a, b, c, d].drop 3).take (Try.prog.cellsOf 3)) = some y3 := h3
    rw [c1] at h1 h2 h3
    rw [c2] at h0
    obtain ⟨z0, e0, _⟩ := DataW.trod_bool Try.underlying4 h0
    obtain ⟨z1, e1, _⟩ := tr_i64 Try.underlying3 h1
    obtain ⟨z2, e2, _⟩ := tr_i64 Try.underlying3 h2
    obtain ⟨z3, e3, _⟩ := tr_i64 Try.underlying3 h3
    cases e0
    cases e1
    cases e2
    cases e3
    exact ⟨⟨z0, z1, z2, z3⟩, rfl, trivial⟩

theorem one_acts {W : World} {v : Value} (h : One W 37 v) : ∃ ao n c l, v = .slice ao n c ∧ RdS actE W ao n c l ∧ n ≤ 140737488351232 := by
  obtain ⟨ao, n, c, l, e, hR, hG, _, hb⟩ := one_sl (E := actE) (G := fun _ => True) Try.underlying37 (by kernel_rfl) (fun H enc => act_dec H enc) (by decide) h
  have hby : Try.prog.bytesOf actE.e = 32 := by kernel_rfl
  rw [hby] at hb
  unfold reachBytes at hb
  have := hR.cap
  exact ⟨ao, n, c, l, e, hR, by omega⟩

end Go.Proofs.Ytoeoneiopcagfaa
