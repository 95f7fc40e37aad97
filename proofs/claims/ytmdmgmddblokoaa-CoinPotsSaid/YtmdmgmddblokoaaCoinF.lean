/- Arguments that hold payments, read. -/
import Derived.Test.YtmdmgmddblokoaaFrameS
namespace Go.Proofs.Ytmdmgmddblokoaa
open Go.ChangeShapes Go.WideShapes Go.ChangeAt Go.RowKit

/-- A payment. -/
structure AskX where
  seat : Int
  amount : Int
instance : Inhabited AskX := ⟨⟨0, 0⟩⟩
def AskX.Ok (x : AskX) : Prop := I64 x.seat ∧ I64 x.amount

def askE : El AskX := ⟨41, 2, fun x => [.int .i64 x.seat, .int .i64 x.amount]⟩
theorem askE_ok : askE.Ok := ⟨fun _ => rfl, by decide, fun x u hu => by
  simp only [askE, List.mem_cons, List.not_mem_nil, or_false] at hu
  rcases hu with rfl | rfl <;> rfl⟩

/-- A payment's fields, where a walk reads them. -/
theorem ask_at {w : World} {ao : Option Addr} {n c i : Nat} {l : List AskX} {x : AskX} (hR : RdS askE w ao n c l) (hx : l[i]? = some x) :
    ∃ b o, ao = some ⟨b, o, none⟩ ∧ w.cell? ⟨b, o + i * 2, none⟩ = some (.int .i64 x.seat) ∧ w.cell? ⟨b, o + i * 2 + 1, none⟩ = some (.int .i64 x.amount) := by
  obtain ⟨b, o, rfl, h0⟩ := hR.cell askE_ok hx (j := 0) rfl
  obtain ⟨b', o', e, h1⟩ := hR.cell askE_ok hx (j := 1) rfl
  cases e
  exact ⟨b, o, rfl, h0, h1⟩

theorem ask_dec (H : Type) (enc : TypeId × Value → H) {W : World} (fuel : Nat) (cs : List Value) (y : DataW H × List MemPlace) (h : Tr H enc W fuel askE.e cs = some y) (hlen : cs.length = askE.size) (hf : Fits askE.e y.1) :
    ∃ x, askE.enc x = cs ∧ x.Ok := by
  obtain ⟨n, hl, hx⟩ := open_st Try.underlying41 h hf
  have c1 : Try.prog.cellsOf 3 = 1 := by kernel_rfl
  obtain ⟨y0, h0, _⟩ := hx 0 _ rfl
  obtain ⟨y1, h1, _⟩ := hx 1 _ rfl
  match cs, hlen with
  | [a, b], _ =>
    have h0 : Tr H enc W n 3 (([a, b].drop 0).take (Try.prog.cellsOf 3)) = some y0 := h0
    have h1 : Tr H enc W n 3 (([a, b].drop 1).take (Try.prog.cellsOf 3)) = some y1 := h1
    rw [c1] at h0 h1
    obtain ⟨z0, e0, g0⟩ := tr_i64 Try.underlying3 h0
    obtain ⟨z1, e1, g1⟩ := tr_i64 Try.underlying3 h1
    cases e0
    cases e1
    exact ⟨⟨z0, z1⟩, rfl, g0, g1⟩

theorem open_asks {H : Type} {enc : TypeId × Value → H} {W : World} {fuel : Nat} {cs : List Value} {y : DataW H × List MemPlace} (h : Tr H enc W fuel 31 cs = some y) (hf : Fits 31 y.1) :
    ∃ ao n c l, cs = [.slice ao n c] ∧ RdS askE W ao n c l ∧ (∀ x ∈ l, x.Ok) ∧ n ≤ 140737488351232 := by
  obtain ⟨ao, n, c, l, e, hR, hG, _, hb⟩ := open_sl (E := askE) (G := AskX.Ok) Try.underlying31 (by kernel_rfl) (fun fuel cs y h1 h2 h3 => ask_dec H enc fuel cs y h1 h2 h3) (by decide) h hf
  have hby : Try.prog.bytesOf askE.e = 16 := by kernel_rfl
  rw [hby] at hb
  unfold reachBytes at hb
  have := hR.cap
  exact ⟨ao, n, c, l, e, hR, hG, by omega⟩

theorem one_asks {W : World} {v : Value} (h : One W 31 v) : ∃ ao n c l, v = .slice ao n c ∧ RdS askE W ao n c l ∧ (∀ x ∈ l, x.Ok) ∧ n ≤ 140737488351232 := by
  obtain ⟨H, enc, d, p, base, ⟨fuel, hd⟩, hf, hv⟩ := h
  obtain ⟨a, n, c, rfl⟩ := okWide_slice Try.underlying31 hv
  obtain ⟨ao, n', c', l, e, h1, h2, h3⟩ := open_asks hd hf
  simp [Value.cells] at e
  obtain ⟨rfl, rfl, rfl⟩ := e
  exact ⟨_, _, _, l, rfl, h1, h2, h3⟩

/-- Payments, and who has the rest. -/
theorem one_asksr {W : World} {v : Value} (h : One W 56 v) : ∃ ao n c l last, v = .agg #[.slice ao n c, .int .i64 last] ∧ RdS askE W ao n c l ∧ (∀ x ∈ l, x.Ok) ∧ n ≤ 140737488351232 ∧ I64 last := by
  obtain ⟨H, enc, d, p, base, ⟨fuel, hd⟩, hf, hv⟩ := h
  obtain ⟨cs, rfl, hsz⟩ := okWide_struct Try.underlying56 hv
  obtain ⟨m, hl, hx⟩ := open_st Try.underlying56 hd hf
  have c1 : Try.prog.cellsOf 3 = 1 := by kernel_rfl
  have c2 : Try.prog.cellsOf 31 = 1 := by kernel_rfl
  have c3 : Try.prog.cellsOf 56 = 2 := by kernel_rfl
  rw [c3] at hsz
  obtain ⟨y0, h0, f0⟩ := hx 0 _ rfl
  obtain ⟨y1, h1, _⟩ := hx 1 _ rfl
  match cs, hsz with
  | ⟨[a, b]⟩, _ =>
    have h0 : Tr H enc W m 31 (([a, b].drop 0).take (Try.prog.cellsOf 31)) = some y0 := h0
    have h1 : Tr H enc W m 3 (([a, b].drop 1).take (Try.prog.cellsOf 3)) = some y1 := h1
    rw [c2] at h0
    rw [c1] at h1
    obtain ⟨ao, n, c, l, e0, r1, r2, r3⟩ := open_asks h0 f0
    obtain ⟨z1, e1, g1⟩ := tr_i64 Try.underlying3 h1
    cases e0
    cases e1
    exact ⟨ao, n, c, l, z1, rfl, r1, r2, r3, g1⟩

/-- Payments, and those of a clone. -/
theorem one_pair {W : World} {v : Value} (h : One W 47 v) : ∃ ao n c l ao2 n2 c2 l2, v = .agg #[.slice ao n c, .slice ao2 n2 c2] ∧ RdS askE W ao n c l ∧ (∀ x ∈ l, x.Ok) ∧ n ≤ 140737488351232 ∧ RdS askE W ao2 n2 c2 l2 ∧ (∀ x ∈ l2, x.Ok) ∧ n2 ≤ 140737488351232 := by
  obtain ⟨H, enc, d, p, base, ⟨fuel, hd⟩, hf, hv⟩ := h
  obtain ⟨cs, rfl, hsz⟩ := okWide_struct Try.underlying47 hv
  obtain ⟨m, hl, hx⟩ := open_st Try.underlying47 hd hf
  have c2 : Try.prog.cellsOf 31 = 1 := by kernel_rfl
  have c3 : Try.prog.cellsOf 47 = 2 := by kernel_rfl
  rw [c3] at hsz
  obtain ⟨y0, h0, f0⟩ := hx 0 _ rfl
  obtain ⟨y1, h1, f1⟩ := hx 1 _ rfl
  match cs, hsz with
  | ⟨[a, b]⟩, _ =>
    have h0 : Tr H enc W m 31 (([a, b].drop 0).take (Try.prog.cellsOf 31)) = some y0 := h0
    have h1 : Tr H enc W m 31 (([a, b].drop 1).take (Try.prog.cellsOf 31)) = some y1 := h1
    rw [c2] at h0 h1
    obtain ⟨ao, n, c, l, e0, r1, r2, r3⟩ := open_asks h0 f0
    obtain ⟨ao2, n2, c2', l2, e1, r4, r5, r6⟩ := open_asks h1 f1
    cases e0
    cases e1
    exact ⟨ao, n, c, l, ao2, n2, c2', l2, rfl, r1, r2, r3, r4, r5, r6⟩

end Go.Proofs.Ytmdmgmddblokoaa
