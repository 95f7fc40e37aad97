/- The document's reader as a law holds it beside the program's; reads as an argument. -/
import Derived.Test.YtpnliafjiookpaaRdJ
import Derived.Test.YtpnliafjiookpaaThA
namespace Go.Proofs.Ytpnliafjiookpaa
open Go.RowKit Go.ChangeShapes Go.WideShapes Go.ChangeAt

/-- A struct opened: each field by its own reading. -/
theorem open_st {H : Type} {enc : TypeId × Value → H} {W : World} {t : TypeId} {fs : Array Field} (hu : Try.prog.underlying t = some (.struct fs)) {fuel : Nat} {cs : List Value} {y : DataW H × List MemPlace}
    (h : Tr H enc W fuel t cs = some y) (hf : Fits t y.1) :
    ∃ n, cs.length = Try.prog.cellsOf t ∧ ∀ (i : Nat) (f : Field), fs[i]? = some f → ∃ y', Tr H enc W n f.type ((cs.drop f.offset).take (Try.prog.cellsOf f.type)) = some y' ∧ Fits f.type y'.1 := by
  obtain ⟨xs, n, _, rfl, hl, hxl, hx⟩ := DataW.trod_struct hu h
  refine ⟨n, hl, fun i f hfi => ?_⟩
  have hi : i < fs.size := (Array.getElem?_eq_some_iff.1 hfi).1
  have hxi : xs[i]? = some (xs[i]'(by omega)) := List.getElem?_eq_getElem _
  refine ⟨xs[i]'(by omega), (hx i f hfi).trans hxi, ?_⟩
  refine fits_each (ts := fs.toList.map (·.type)) (ds := xs.map (·.1)) (fun x hx => hf x ?_) i _ _ (by simp [hfi]) (by simp [hxi])
  simp only [DataW.weights, hu]
  exact hx

/-- A read. -/
structure ActX where
  kind : Int
  n : Int
  most : Nat
instance : Inhabited ActX := ⟨⟨0, 0, 0⟩⟩
def ActX.Ok (x : ActX) : Prop := I64 x.n ∧ U64 x.most
def actE : El ActX := ⟨53, 3, fun x => [.int .i64 x.kind, .int .i64 x.n, .int .u64 (x.most : Int)]⟩
theorem actE_ok : actE.Ok := ⟨fun _ => rfl, by decide, fun x u hu => by
  simp only [actE, List.mem_cons, List.not_mem_nil, or_false] at hu
  rcases hu with rfl | rfl | rfl <;> rfl⟩

theorem act_at {w : World} {ao : Option Addr} {n c i : Nat} {l : List ActX} {x : ActX} (hR : RdS actE w ao n c l) (hx : l[i]? = some x) :
    ∃ b o, ao = some ⟨b, o, none⟩ ∧ w.cell? ⟨b, o + i * 3, none⟩ = some (.int .i64 x.kind) ∧ w.cell? ⟨b, o + i * 3 + 1, none⟩ = some (.int .i64 x.n) ∧ w.cell? ⟨b, o + i * 3 + 2, none⟩ = some (.int .u64 (x.most : Int)) := by
  obtain ⟨b, o, rfl, h0⟩ := hR.cell actE_ok hx (j := 0) rfl
  obtain ⟨b', o', e, h1⟩ := hR.cell actE_ok hx (j := 1) rfl
  cases e
  obtain ⟨b', o', e, h2⟩ := hR.cell actE_ok hx (j := 2) rfl
  cases e
  exact ⟨b, o, rfl, h0, h1, h2⟩

theorem act_dec (H : Type) (enc : TypeId × Value → H) {W : World} (fuel : Nat) (cs : List Value) (y : DataW H × List MemPlace) (h : Tr H enc W fuel actE.e cs = some y) (hlen : cs.length = actE.size) (hf : Fits actE.e y.1) :
    ∃ x, actE.enc x = cs ∧ x.Ok := by
  obtain ⟨n, hl, hx⟩ := open_st Try.underlying53 h hf
  have c1 : Try.prog.cellsOf 3 = 1 := by kernel_rfl
  have c2 : Try.prog.cellsOf 23 = 1 := by kernel_rfl
  obtain ⟨y0, h0, _⟩ := hx 0 _ rfl
  obtain ⟨y1, h1, _⟩ := hx 1 _ rfl
  obtain ⟨y2, h2, _⟩ := hx 2 _ rfl
  match cs, hlen with
  | [a, b, c], _ =>
    have h0 : Tr H enc W n 3 (([a, b, c].drop 0).take (Try.prog.cellsOf 3)) = some y0 := h0
    have h1 : Tr H enc W n 3 (([a, b, c].drop 1).take (Try.prog.cellsOf 3)) = some y1 := h1
    have h2 : Tr H enc W n 23 (([a, b, c].drop 2).take (Try.prog.cellsOf 23)) = some y2 := h2
    rw [c1] at h0 h1
    rw [c2] at h2
    obtain ⟨z0, e0, w0⟩ := tr_int Try.underlying3 h0
    obtain ⟨z1, e1, w1⟩ := tr_int Try.underlying3 h1
    obtain ⟨z2, e2, w2⟩ := tr_int Try.underlying23 h2
    obtain ⟨l1, u1⟩ := bounds_i64 w1
    obtain ⟨l2, u2⟩ := bounds_u64 w2
    cases e0
    cases e1
    cases e2
    refine ⟨⟨z0, z1, z2.toNat⟩, ?_, (by show I64 z1; unfold I64; omega), (by show U64 z2.toNat; unfold U64; omega)⟩
    simp [actE]
    omega

theorem one_acts {W : World} {v : Value} (h : One W 49 v) : ∃ ao n c l, v = .slice ao n c ∧ RdS actE W ao n c l ∧ (∀ x ∈ l, x.Ok) ∧ n ≤ 140737488351232 := by
  obtain ⟨ao, n, c, l, e, hR, hG, _, hb⟩ := one_sl (E := actE) (G := ActX.Ok) Try.underlying49 (by kernel_rfl) (fun H enc => act_dec H enc) (by decide) h
  have hby : Try.prog.bytesOf actE.e = 24 := by kernel_rfl
  rw [hby] at hb
  unfold reachBytes at hb
  have := hR.cap
  exact ⟨ao, n, c, l, e, hR, hG, by omega⟩

theorem OwnS.notRow {α : Type} {E : El α} {w : World} {base b n c : Nat} {ao : Option Addr} {l : List α} {cs : Array Value} {t : TypeId} {fr : Nat × Nat} (h : OwnS E w base ao n c l) (hz : w.heap[b]? = some (.cells cs t fr)) (hne : t ≠ E.e) : (Value.slice ao n c).ownBlock ≠ some b := by
  rcases h.own.2 with ⟨hv, _⟩ | ⟨g, cap', cur, hv, _, hg, _⟩
  · cases hv
    simp [Value.ownBlock]
  · cases hv
    intro e
    simp [Value.ownBlock] at e
    subst e
    rw [hg] at hz
    cases hz
    exact hne rfl

theorem Rdr.row {w : World} {base g : Nat} {s : List UInt8 × Nat} (h : Rdr w base g s) : ∃ cs, w.heap[g]? = some (.cells cs 67 (0, 0)) := by
  obtain ⟨ao, n, c, hh, _⟩ := h.ex
  exact ⟨_, hh⟩

/-- The document's reader is written: the program's one stays. -/
theorem Rdr.keep3 {w w' : World} {base g g6 : Nat} {s : List UInt8 × Nat} {ao : Option Addr} {n c : Nat} {a e : Int} (h : Rdr w base g s) (hz : w.heap[g6]? = some (.cells #[.slice ao n c, .int .i64 a, .int .i64 e] 51 (0, 0))) (hg : w.grownBy w' (some g6)) : Rdr w' base g s := by
  obtain ⟨ao', n', c', hh, hR, hn, hb⟩ := h.ex
  refine ⟨h.le, ao', n', c', ?_, hR.grown byteE_ok hg ?_, hn, hb⟩
  · exact z_keep hg hh (fun e => by have := Option.some.inj e; subst this; rw [hh] at hz; cases hz)
  · intro h0 ad had heq
    obtain ⟨b, o, e1, hc⟩ := hR.byte 0 h0
    subst had
    cases e1
    simp at heq
    subst heq
    unfold World.cell? at hc
    simp only [hz] at hc
    match o, hc with
    | 0, hc => simp at hc
    | 1, hc => simp at hc
    | 2, hc => simp at hc
    | o + 3, hc => simp at hc

/-- Both readers, at the same place of the same bytes. -/
structure RdSt (w : World) (base g g6 : Nat) (mo : Option Addr) (k mc : Nat) (bs : List UInt8) (s : List UInt8 × Nat) (at1 : Nat) : Prop where
  rd : Rdr w base g s
  hz : w.heap[g6]? = some (.cells #[.slice mo k mc, .int .i64 (at1 : Nat), .int .i64 (s.2 : Nat)] 51 (0, 0))
  le : at1 ≤ k
  dr : bs.drop at1 = s.1
  mb : OwnB w 0 mo k mc bs

section
variable {w w' : World} {base g g6 k mc at1 at2 : Nat} {mo : Option Addr} {bs : List UInt8} {s s' : List UInt8 × Nat}
theorem RdSt.below (h : RdSt w base g g6 mo k mc bs s at1) (hb : Below w.heap.size w w') : RdSt w' base g g6 mo k mc bs s at1 :=
  ⟨h.rd.below hb, z_keep (grown_of_below hb none) h.hz (fun e => by cases e), h.le, h.dr, h.mb.below hb⟩
theorem RdSt.cells (h : RdSt w base g g6 mo k mc bs s at1) : w.cell? ⟨g6, 0, none⟩ = some (.slice mo k mc) ∧ w.cell? ⟨g6, 1, none⟩ = some (.int .i64 (at1 : Nat)) ∧ w.cell? ⟨g6, 2, none⟩ = some (.int .i64 (s.2 : Nat)) ∧ (∀ k, w.frozen? ⟨g6, k, none⟩ = false) := box_cells h.hz
/-- The program's reader reads: what is the document's stays. -/
theorem RdSt.rowAt (h : RdSt w base g g6 mo k mc bs s at1) (hg : w.grownBy w' (some g)) : w'.heap[g6]? = some (.cells #[.slice mo k mc, .int .i64 (at1 : Nat), .int .i64 (s.2 : Nat)] 51 (0, 0)) := by
  obtain ⟨cs, hr⟩ := h.rd.row
  exact z_keep hg h.hz (fun e => by have := Option.some.inj e; subst this; have := h.hz; rw [hr] at this; cases this)
theorem RdSt.mbAt (h : RdSt w base g g6 mo k mc bs s at1) (hg : w.grownBy w' (some g)) : OwnB w' 0 mo k mc bs := by
  obtain ⟨cs, hr⟩ := h.rd.row
  exact h.mb.grown hg (.inr (h.mb.notRow hr (by decide)))
/-- It reads, then the document's reader is written. -/
theorem RdSt.callStore (h : RdSt w base g g6 mo k mc bs s at1) (hr : Rdr w' base g s') (hg : w.grownBy w' (some g)) (hl : at2 ≤ k) (hd : bs.drop at2 = s'.1) :
    RdSt (((w'.setCell ⟨g6, 0, none⟩ (.slice mo k mc)).setCell ⟨g6, 1, none⟩ (.int .i64 (at2 : Nat))).setCell ⟨g6, 2, none⟩ (.int .i64 (s'.2 : Nat))) base g g6 mo k mc bs s' at2 :=
  ⟨hr.keep3 (h.rowAt hg) (box_grown _ _ _ _ _), box_put (h.rowAt hg) _ _ _, hl, hd, (h.mbAt hg).grown (box_grown _ _ _ _ _) (.inr ((h.mbAt hg).notRow (h.rowAt hg) (by decide)))⟩
/-- The document's reader is written first: the program's one still is as it was. -/
theorem RdSt.stored (h : RdSt w base g g6 mo k mc bs s at1) (x1 x2 : Int) : Rdr (((w.setCell ⟨g6, 0, none⟩ (.slice mo k mc)).setCell ⟨g6, 1, none⟩ (.int .i64 x1)).setCell ⟨g6, 2, none⟩ (.int .i64 x2)) base g s :=
  h.rd.keep3 h.hz (box_grown _ _ _ _ _)
theorem RdSt.storeCall (h : RdSt w base g g6 mo k mc bs s at1) (hr : Rdr w' base g s') (hg : (((w.setCell ⟨g6, 0, none⟩ (.slice mo k mc)).setCell ⟨g6, 1, none⟩ (.int .i64 (at2 : Nat))).setCell ⟨g6, 2, none⟩ (.int .i64 (s'.2 : Nat))).grownBy w' (some g)) (hl : at2 ≤ k) (hd : bs.drop at2 = s'.1) :
    RdSt w' base g g6 mo k mc bs s' at2 := by
  have hz2 := box_put h.hz (.slice mo k mc) (.int .i64 (at2 : Nat)) (.int .i64 (s'.2 : Nat))
  have mb2 := h.mb.grown (box_grown w g6 (.slice mo k mc) (.int .i64 (at2 : Nat)) (.int .i64 (s'.2 : Nat))) (.inr (h.mb.notRow h.hz (by decide)))
  obtain ⟨cs, hrow⟩ := (h.stored (at2 : Nat) (s'.2 : Nat)).row
  exact ⟨hr, z_keep hg hz2 (fun e => by have := Option.some.inj e; subst this; rw [hrow] at hz2; cases hz2), hl, hd, mb2.grown hg (.inr (mb2.notRow hrow (by decide)))⟩
end
end Go.Proofs.Ytpnliafjiookpaa
