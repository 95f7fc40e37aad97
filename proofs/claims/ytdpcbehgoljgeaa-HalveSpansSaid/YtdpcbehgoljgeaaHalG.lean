/- The deeds of the laws of the layer halve. -/
import Derived.Test.YtdpcbehgoljgeaaDigF
namespace Go.Proofs.Ytdpcbehgoljgeaa
open Go.ChangeShapes Go.WideShapes Go.ChangeAt Go.RowKit

/-- A deed: its word, a digest, which half, a word. -/
structure DeedX where
  what : Nat
  d : Dig
  first : Bool
  w : Nat
instance : Inhabited DeedX := ⟨⟨0, dig0, false, 0⟩⟩

def deedE : El DeedX := ⟨33, 11, fun x => .int .u8 x.what :: (digL x.d ++ [.bool x.first, .int .u8 x.w])⟩
theorem deedE_ok : deedE.Ok := ⟨fun x => by simp [deedE, digL_len], by decide, fun x u hu => by
  simp only [deedE, List.mem_cons, List.mem_append, List.not_mem_nil, or_false] at hu
  rcases hu with rfl | hu | rfl | rfl
  · rfl
  · obtain ⟨y, _, rfl⟩ := List.mem_map.1 hu
    rfl
  · rfl
  · rfl⟩

theorem deed_dec (H : Type) (enc : TypeId × Value → H) {W : World} (fuel : Nat) (cs : List Value) (y : DataW H × List MemPlace) (h : Tr H enc W fuel deedE.e cs = some y) (hlen : cs.length = deedE.size) (_ : Fits deedE.e y.1) :
    ∃ x, deedE.enc x = cs ∧ x.what < 256 := by
  obtain ⟨ys, n, _, _, _, hyl, hf⟩ := DataW.trod_struct Try.underlying33 h
  have c1 : Try.prog.cellsOf 5 = 1 := by kernel_rfl
  have c4 : Try.prog.cellsOf 4 = 1 := by kernel_rfl
  have c8 : Try.prog.cellsOf 27 = 8 := by kernel_rfl
  have f0 : Tr H enc W n 5 ((cs.drop 0).take (Try.prog.cellsOf 5)) = ys[0]? := hf 0 _ rfl
  have f1 : Tr H enc W n 27 ((cs.drop 1).take (Try.prog.cellsOf 27)) = ys[1]? := hf 1 _ rfl
  have f2 : Tr H enc W n 4 ((cs.drop 9).take (Try.prog.cellsOf 4)) = ys[2]? := hf 2 _ rfl
  have f3 : Tr H enc W n 5 ((cs.drop 10).take (Try.prog.cellsOf 5)) = ys[3]? := hf 3 _ rfl
  rw [c1] at f0 f3
  rw [c8] at f1
  rw [c4] at f2
  have hl : ys.length = 4 := hyl
  change cs.length = 11 at hlen
  rw [List.getElem?_eq_getElem (by omega)] at f0 f1 f2 f3
  match cs, hlen, f0, f1, f2, f3 with
  | [x0, x1, x2, x3, x4, x5, x6, x7, x8, x9, x10], _, f0, f1, f2, f3 =>
    simp only [List.drop_zero, List.drop_succ_cons, List.take_succ_cons, List.take_zero] at f0 f1 f2 f3
    obtain ⟨z, e0, hz⟩ := tr_u8 Try.underlying5 f0
    obtain ⟨d, e1⟩ := tr_dig Try.underlying27 c8 f1
    obtain ⟨b, e2, _⟩ := DataW.trod_bool Try.underlying4 f2
    obtain ⟨v, e3, _⟩ := tr_u8 Try.underlying5 f3
    simp at e2
    subst e0 e2 e3
    exact ⟨⟨z, d, b, v⟩, by simp [deedE, e1], hz⟩

theorem one_deeds {W : World} {v : Value} (h : One W 22 v) : ∃ ao n c l, v = .slice ao n c ∧ RdS deedE W ao n c l ∧ (∀ x ∈ l, x.what < 256) ∧ n ≤ 140737488351232 := by
  obtain ⟨ao, n, c, l, e, hR, hG, _, hb⟩ := one_sl (E := deedE) (G := fun x => x.what < 256) Try.underlying22 (by kernel_rfl) (fun H enc => deed_dec H enc) (by decide) h
  have hby : Try.prog.bytesOf deedE.e = 11 := by kernel_rfl
  rw [hby] at hb
  unfold reachBytes at hb
  have := hR.cap
  exact ⟨ao, n, c, l, e, hR, hG, by omega⟩

/-- A deed's fields, where a walk reads them. -/
theorem deed_at {w : World} {b o n c i : Nat} {l : List DeedX} {x : DeedX} (hR : RdS deedE w (some ⟨b, o, none⟩) n c l) (hx : l[i]? = some x) :
    w.cell? ⟨b, o + i * 11, none⟩ = some (.int .u8 x.what) ∧ w.rangeAt b (o + i * 11 + 1) (digL x.d) ∧ w.cell? ⟨b, o + i * 11 + 9, none⟩ = some (.bool x.first) := by
  have hj : ∀ j u, (deedE.enc x)[j]? = some u → w.cell? ⟨b, o + i * 11 + j, none⟩ = some u := fun j u hu => by
    obtain ⟨b', o', e, hc⟩ := hR.cell deedE_ok hx (j := j) hu
    cases e
    rw [show o + i * 11 + j = o + (i * deedE.size + j) by show _ = o + (i * 11 + j); omega]
    exact hc
  refine ⟨by simpa using hj 0 _ rfl, fun j v hv => ?_, hj 9 _ ?_⟩
  · have hl : j < 8 := by have := (List.getElem?_eq_some_iff.1 hv).1; rw [digL_len] at this; exact this
    have := hj (j + 1) v (by simp only [deedE, List.getElem?_cons_succ]; rw [List.getElem?_append_left (by rw [digL_len]; exact hl)]; exact hv)
    rw [show o + i * 11 + 1 + j = o + i * 11 + (j + 1) by omega]
    exact this
  · simp [deedE, List.getElem?_append, digL_len]

end Go.Proofs.Ytdpcbehgoljgeaa
